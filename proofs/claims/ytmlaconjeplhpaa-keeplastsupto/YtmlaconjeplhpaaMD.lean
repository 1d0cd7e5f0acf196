/- Bytes, rows and pointers: laws for package disk's code. Contracts of package disk. Contracts of package disk: New and Crash. Contracts of package store: four, put, half, place, fits. The contract of package store's put: bytes behind all others. Contracts of package store: eldest, root, blocks. The contract of package store's blocks; lists that are gathered. The contract of package store's Open. Contracts of furlongref01.Twin, Bytes, Lists, and of package store's Append, Sync, Checkpoint, Len, Safe. Contract of package store's Checkpoint. -/
import Derived.Test.YtmlaconjeplhpaaMB
import Derived.Test.YtmlaconjeplhpaaMC
import Derived.Test.YtmlaconjeplhpaaMT
import Derived.Laws.CopyRow
import Derived.Laws.IdiomCopy
import Derived.Laws.Pointers
import Derived.Laws.Small
import Derived.ArgAppend
import Derived.Lib.SlBytesConst
set_option linter.unusedVariables false
set_option linter.unusedSimpArgs false
set_option maxRecDepth 20000
namespace Go.Proofs.Ytmlaconjeplhpaa
open Go Go.Vc

def bytes (l : List Nat) : List Value := l.map fun n : Nat => .int .u8 (n : Int)
theorem bytes_append (l l' : List Nat) : bytes (l ++ l') = bytes l ++ bytes l' := by simp [bytes]
theorem bytes_length (l : List Nat) : (bytes l).length = l.length := by simp [bytes]
theorem bytes_one (l : List Nat) : ∀ u ∈ bytes l, u.oneCell' = true := by
  intro u hu
  obtain ⟨_, _, rfl⟩ := List.mem_map.1 hu
  rfl
theorem bytes_get {bs : List Nat} {i : Nat} (h : i < bs.length) : (bytes bs)[i]? = some (.int .u8 (bs[i] : Int)) := by simp [bytes, h]
theorem bytes_drop (bs : List Nat) (n : Nat) : (bytes bs).drop n = bytes (bs.drop n) := by simp [bytes, List.map_drop]
theorem bytes_take (bs : List Nat) (n : Nat) : (bytes bs).take n = bytes (bs.take n) := by simp [bytes, List.map_take]
theorem infoB : (Try.prog.info? 5).map (fun i => (i.zero, i.size, i.bytes)) = some (some (.int .u8 0), 1, 1) := by kernel_rfl
theorem Sl.lenV {w : World} {size n : Nat} {v : Value} {l : List Value} {k : Value → Prop} (h : Sl w size v n l) (hk : k (.int .i64 n)) : Len v k := by
  obtain ⟨A, c, rfl, _⟩ := h; exact hk
theorem sl_one {w : World} {size n : Nat} {v : Value} {l : List Value} (h : Sl w size v n l) : v.oneCell' = true ∧ v.cells.toList = [v] := by
  obtain ⟨A, c, rfl, _⟩ := h; exact ⟨rfl, rfl⟩
theorem Bk.slN {w : World} {b n size : Nat} {T : TypeId} {l : List Value} (h : Bk w b T l) (hn : l.length = n * size) (c : Nat) : Sl w size (.slice (some ⟨b, 0, none⟩) n c) n l :=
  ⟨some ⟨b, 0, none⟩, c, rfl, by omega, (fun e => by cases e), fun a ha => by
    obtain rfl := Option.some.inj ha
    have := Cells.of_bk h 0 l.length
    simpa using this⟩
/-- A slice of one element. -/
theorem lit1 {P : Program} {w : World} {k : Value → World → Prop} {t e : TypeId} {z u : Value} {size bytes : Nat} {cs : List Value} (ht : P.underlying t = some (.slice e)) (hi : (P.info? e).map (fun i => (i.zero, i.size, i.bytes)) = some (some z, size, bytes))
    (hsz : size ≤ 1000) (hu : u.cells.toList = cs) (hl : cs.length = size)
    (h : ∀ b w', w.heap.size = b → Bk w' b e cs → Fr [] w w' → w'.heap.size = b + 1 → k (.slice (some ⟨b, 0, none⟩) 1 1) w') : Do P (Instr.buildSlice t 1 #[(0, u)]) w k := by
  refine buildSlice' (parts := [(0, u)]) (l := cs) ht hi (by omega) ?_ h
  have hz : (zerosL (bif Nat.beq (1 * size) 0 then [] else z.cells.toList) (1 * size)).length = size := by simp [zerosL]
  generalize zerosL (bif Nat.beq (1 * size) 0 then [] else z.cells.toList) (1 * size) = L at *
  have h1 : Nat.beq u.cells.toList.length size = true := by rw [hu, hl]; simp
  have h2 : Nat.ble (0 + size) L.length = true := by rw [hz]; simp
  simp only [fillL, h1, h2, Bool.not_true, Bool.or_self, cond_false, Nat.zero_mul, h2]
  rw [hu, splice_all (by omega)]

/-- make([]T, n). -/
theorem make_n {P : Program} {w : World} {k : Value → World → Prop} {t e : TypeId} {z : Value} {size bytes n : Nat} {kl kc : IntKind} (ht : P.underlying t = some (.slice e)) (hi : (P.info? e).map (fun i => (i.zero, i.size, i.bytes)) = some (some z, size, bytes)) (hb : bytes * n ≤ 281474976710656) (hc : n ≤ 140737488355328)
    (h : ∀ b w' l, l.length = n * size → w.heap.size = b → Bk w' b e l → Fr [] w w' → w'.heap.size = b + 1 → k (.slice (some ⟨b, 0, none⟩) n n) w') : Do P (Instr.makeSlice t (.int kl (n : Int)) (.int kc (n : Int))) w k := by
  obtain ⟨i, hi', hz, hs, hby⟩ := info_of hi
  subst hby
  subst hs
  have hb' : (i.bytes : Int) * (n : Int) ≤ 281474976710656 := by
    have h : ((i.bytes * n : Nat) : Int) ≤ 281474976710656 := by omega
    rwa [Int.natCast_mul] at h
  have hr := run_make (P := P) w t e i z ht hi' hz kl kc n n (by omega) (Int.le_refl _) hb' (by omega)
  simp only [Int.toNat_natCast] at hr
  refine ⟨_, _, hr, h _ _ (madeCells z.cells (n * i.size)).toList ?_ rfl ?_ (Fr.alloc _ _ _) (alloc_size _ _)⟩
  · rw [Array.length_toList, size_madeCells]
  · exact alloc_new w _
/-- Putting a value together out of its parts. -/
theorem bldV {P : Program} {T : TypeId} {n : Nat} {vals : List Value} {parts : List (Nat × Value)} {k : Value → Prop} (sizes : List Nat)
    (hp : (placeT P T).map (fun pl => (List.range' 0 sizes.length).map pl) = some (offs 0 sizes)) (hz : (zeroT P T).map (fun z => z.cells.toList.length) = some n) (hn : sizes.sum = n) (hf : fieldsOk P T = true)
    (hv : parts = (vals.zipIdx 0).map fun x => (x.2, x.1)) (hl : vals.map (fun v => v.cells.toList.length) = sizes)
    (h : k (.agg (vals.flatMap fun v => v.cells.toList).toArray)) : Bld P T parts k := by
  obtain ⟨pl, hpl, hpo⟩ := Option.map_eq_some_iff.1 hp
  obtain ⟨zv, hzv, hzn⟩ := Option.map_eq_some_iff.1 hz
  have hfill := fillL_seq pl vals sizes 0 0 [] zv.cells.toList hpo hl rfl (by omega)
  simp only [List.nil_append] at hfill
  exact ⟨_, by unfold bldL; rw [hzv, hpl, hv]; exact hfill, hf, h⟩

theorem nilS (w : World) (size : Nat) : Sl w size (.slice none 0 0) 0 [] := ⟨none, 0, rfl, by simp, fun _ => ⟨rfl, rfl⟩, fun a h => by cases h⟩
section
variable {P : Program} {S : World → Prop} {t : TypeId} {κ κ' : IntKind} {x y : Int} {k : Value → Prop}
theorem ptr_eql {p : Option Addr} (ht : P.underlying t = some (.pointer (P.pointee t))) (h : k (.bool p.isNone)) : Bin P S .eql t false true (.pointer p) (.pointer none) k := by
  refine ⟨_, fun w hw => ?_, h⟩
  have := run_eql_pointer_nil (P := P) w t p ht
  simp [binSem, eqGuard, this]
theorem ptr_neq {p : Option Addr} (ht : P.underlying t = some (.pointer (P.pointee t))) (h : k (.bool (!p.isNone))) : Bin P S .neq t false true (.pointer p) (.pointer none) k := by
  refine ⟨_, fun w hw => ?_, h⟩
  have := run_neq_pointer_nil (P := P) w t p ht
  simp [binSem, eqGuard, this]
theorem max2 {ts : Array TypeId} (h : k (.int κ (if y > x then y else x))) : Pu P S (Builtin.max_ ts t #[.int κ x, .int κ' y]) k := ⟨_, fun w' _ => run_max_int2 w' ts t κ κ' x y, h⟩
theorem min2 {ts : Array TypeId} (h : k (.int κ (if y < x then y else x))) : Pu P S (Builtin.min_ ts t #[.int κ x, .int κ' y]) k := ⟨_, fun w' _ => run_min_int2 w' ts t κ κ' x y, h⟩
end
/-- A row's element's address. -/
theorem ixRow {κ : IntKind} {b i n c sz : Nat} {k : Value → Prop} (hi : i < n) (h : k (.pointer (some ⟨b, i * sz, none⟩))) : IAdS sz (.slice (some ⟨b, 0, none⟩) n c) (.int κ i) k := by
  refine ⟨by omega, by omega, ?_⟩
  simp only [Int.toNat_natCast, Addr.add_lit, Nat.zero_add, Option.map_some]
  exact h
theorem slcAll {b n sz : Nat} {k : Value → Prop} (h : k (.slice (some ⟨b, 0, none⟩) n n)) : SlcA n sz (.pointer (some ⟨b, 0, none⟩)) none none none k := by
  refine ⟨by simp, by simp, by simp, ?_⟩
  simp only [Int.toNat_natCast, Int.toNat_zero, Nat.sub_zero, Nat.zero_mul, Addr.add_lit]
  cases hb : Nat.beq n 0 <;> exact h
/-- copy into an array. -/
theorem do_copy {P : Program} {w : World} {k : Value → World → Prop} {dT sT ty e T : TypeId} {b d n : Nat} {x : Value} {l cells : List Value} (hu : P.underlying dT = some (.slice e)) (hs : (P.info? e).map (·.size) = some 1) (hB : Bk w b T l) (hl : l.length = d) (hx : Sl w 1 x n cells) (h1 : ∀ v ∈ cells, v.oneCell' = true) (hn : n ≤ d)
    (h : ∀ v w', Bk w' b T (cells ++ l.drop n) → Fr [b] w w' → w'.heap.size = w.heap.size → k v w') : Do P (Builtin.copy_ #[dT, sT] ty #[.slice (some ⟨b, 0, none⟩) d d, x]) w k := by
  obtain ⟨A, c, rfl, hcl, h0, hc⟩ := hx
  rw [Nat.mul_one] at hcl
  cases A with
  | none =>
    obtain ⟨rfl, rfl⟩ := h0 rfl
    have : cells = [] := List.eq_nil_of_length_eq_zero hcl
    subst this
    refine ⟨_, _, run_copy_none w dT sT ty e (some ⟨b, 0, none⟩) none d d 0 0 hu hs (by simp), h _ _ ?_ (Fr.refl _ _) rfl⟩
    simpa using hB
  | some a =>
    have hg : w.heap[b]? = some (.cells l.toArray T (0, 0)) := hB
    have hr := run_copy_row (P := P) w dT sT ty e b 0 d d a n c l.toArray T cells hu hs hg (by rw [hcl]; exact (Nat.min_eq_left hn).symm) (hc a rfl) (by simp; omega) h1
    refine ⟨_, _, hr, h _ _ ?_ ?_ (by simp)⟩
    · unfold Bk
      rw [setRow_heap w b l.toArray _ T _ hg]
      simp [hcl]
    · refine ⟨rfl, rfl, rfl, by simp, fun i hi hx => ?_⟩
      exact setRow_other w b i _ (by intro e; subst e; simp at hx)
/-- A part of an element of a slice. -/
theorem ixFC {S : World → Prop} {w : World} {κ : IntKind} {size n i off : Nat} {v u : Value} {cells : List Value} {k : Value → Prop} (hs : ∀ w', S w' → Sl w' size v n cells) (h0 : Sl w size v n cells) (hi : i < n) (hv : cells[i * size + off]? = some u) (h : k u) :
    IAdS size v (.int κ i) fun t => FAd off t fun t' => LdC S t' k := by
  refine ixA h0 hi fun a ha _ _ => ?_
  refine ⟨u, fun w' e => ?_, h⟩
  obtain ⟨A, c, rfl, hl, hn, hc⟩ := hs w' e
  cases A with
  | none => have := (hn rfl).1; omega
  | some b =>
    rw [ha b c rfl, add_add']
    exact hc b rfl _ u hv
theorem ixFA {S : World → Prop} {w : World} {κ : IntKind} {size n i off m : Nat} {v : Value} {cells : List Value} {k : Value → Prop} (hs : ∀ w', S w' → Sl w' size v n cells) (h0 : Sl w size v n cells) (hi : i < n) (hm : i * size + off + m ≤ cells.length) (h : k (.agg ((cells.drop (i * size + off)).take m).toArray)) :
    IAdS size v (.int κ i) fun t => FAd off t fun t' => LdA S m t' k := by
  refine ixA h0 hi fun a ha _ _ => ?_
  refine ⟨_, by simp; omega, fun w' e j u hj => ?_, h⟩
  obtain ⟨A, c, rfl, hl, hn, hc⟩ := hs w' e
  cases A with
  | none => have := (hn rfl).1; omega
  | some b =>
    rw [ha b c rfl, add_add', add_add']
    rw [List.getElem?_take] at hj
    split at hj
    · rw [List.getElem?_drop] at hj
      have := hc b rfl _ u hj
      rw [← Nat.add_assoc]
      exact this
    · cases hj

/-! ### Blocks in a row -/
open St in
theorem flat_len {B : List Blk} (h : All64 B) : B.flatten.length = B.length * 64 := by
  induction B with
  | nil => rfl
  | cons b B ih =>
    rw [List.flatten_cons, List.length_append, (h b (by simp)).1, ih (fun c hc => h c (by simp [hc])), List.length_cons]; omega
open St in
theorem flat_get {B : List Blk} (h : All64 B) : ∀ {i : Nat} (hi : i < B.length), (B.flatten.drop (i * 64)).take 64 = B[i] := by
  induction B with
  | nil => intro i hi; simp at hi
  | cons b B ih =>
    intro i hi
    have hb := (h b (by simp)).1
    cases i with
    | zero => rw [List.flatten_cons, Nat.zero_mul, List.drop_zero, ← hb, List.take_left]; rfl
    | succ i =>
      rw [List.flatten_cons, show (i + 1) * 64 = b.length + i * 64 by omega, ← List.drop_drop, List.drop_left]
      exact ih (fun c hc => h c (by simp [hc])) (by simpa using hi)
open St in
theorem flat_set {B : List Blk} (h : All64 B) {c : Blk} (hc : c.length = 64) : ∀ {i : Nat} (hi : i < B.length), splice (bytes B.flatten) (i * 64) (bytes c) = bytes (B.set i c).flatten := by
  induction B with
  | nil => intro i hi; simp at hi
  | cons b B ih =>
    intro i hi
    have hb := (h b (by simp)).1
    cases i with
    | zero =>
      unfold splice
      rw [List.flatten_cons, bytes_append, List.set_cons_zero, List.flatten_cons, bytes_append, Nat.zero_mul, List.take_zero, List.nil_append, Nat.zero_add, bytes_length, hc]
      congr 1
      rw [← hb, ← bytes_length b, List.drop_left]
    | succ i =>
      have hi' : i < B.length := by simpa using hi
      have := ih (fun c hc => h c (by simp [hc])) hi'
      rw [List.set_cons_succ, List.flatten_cons, List.flatten_cons, bytes_append, bytes_append, ← this]
      unfold splice
      have hbl : (bytes b).length = 64 := by rw [bytes_length, hb]
      rw [show (i + 1) * 64 = (bytes b).length + i * 64 by omega, List.take_append, List.take_of_length_le (by omega), Nat.add_sub_cancel_left, Nat.add_assoc, ← List.drop_drop, List.drop_left]
      simp only [List.append_assoc]
end Go.Proofs.Ytmlaconjeplhpaa

set_option linter.unusedVariables false
set_option linter.unusedSimpArgs false
set_option maxRecDepth 20000
namespace Go.Proofs.Ytmlaconjeplhpaa
open Go Go.Vc
open St (Dsk All64 Blk pad)

def wcells (x : Nat × Blk × Blk) : List Value := .int .i64 x.1 :: (bytes x.2.1 ++ bytes x.2.2)
def lcells (L : List (Nat × Blk × Blk)) : List Value := L.flatMap wcells
def LAll (B : List Blk) (L : List (Nat × Blk × Blk)) : Prop := ∀ x ∈ L, x.1 < B.length ∧ (x.2.1.length = 64 ∧ ∀ c ∈ x.2.1, c < 256) ∧ (x.2.2.length = 64 ∧ ∀ c ∈ x.2.2, c < 256)
theorem lcells_len {B : List Blk} {L : List (Nat × Blk × Blk)} (h : LAll B L) : (lcells L).length = L.length * 129 := by
  induction L with
  | nil => rfl
  | cons x L ih =>
    have h1 := h x (by simp)
    have e : lcells (x :: L) = wcells x ++ lcells L := by simp [lcells]
    rw [e, List.length_append, ih (fun y hy => h y (by simp [hy])), List.length_cons]
    simp only [wcells, List.length_cons, List.length_append, bytes_length, h1.2.1.1, h1.2.2.1]
    omega
theorem lcells_get {B : List Blk} {L : List (Nat × Blk × Blk)} (h : LAll B L) : ∀ {i : Nat} (hi : i < L.length), (lcells L)[i * 129]? = some (.int .i64 (L[i].1 : Int)) ∧ ((lcells L).drop (i * 129 + 1)).take 64 = bytes L[i].2.1 := by
  induction L with
  | nil => intro i hi; simp at hi
  | cons x L ih =>
    intro i hi
    have h1 := h x (by simp)
    have e : lcells (x :: L) = wcells x ++ lcells L := by simp [lcells]
    have hl : (wcells x).length = 129 := by simp only [wcells, List.length_cons, List.length_append, bytes_length, h1.2.1.1, h1.2.2.1]
    have hb : (bytes x.2.1).length = 64 := by rw [bytes_length, h1.2.1.1]
    rw [e]
    cases i with
    | zero =>
      refine ⟨by simp [wcells], ?_⟩
      show (((.int .i64 x.1 :: (bytes x.2.1 ++ bytes x.2.2)) ++ lcells L).drop 1).take 64 = bytes x.2.1
      rw [List.cons_append, List.drop_one, List.tail_cons, List.append_assoc, ← hb, List.take_left]
    | succ i =>
      obtain ⟨k1, k2⟩ := ih (fun y hy => h y (by simp [hy])) (i := i) (by simpa using hi)
      refine ⟨?_, ?_⟩
      · rw [List.getElem?_append_right (by omega), hl, show (i + 1) * 129 - 129 = i * 129 by omega]; exact k1
      · rw [show (i + 1) * 129 + 1 = (wcells x).length + (i * 129 + 1) by omega, ← List.drop_drop, List.drop_left]; exact k2
/-- A disk stands at pd; its blocks at bb, its loose writes in lv. -/
structure Dk (w : World) (pd bb : Nat) (lv : Value) (D : Dsk) : Prop where
  blk : Bk w pd 116 [.slice (some ⟨bb, 0, none⟩) D.B.length D.B.length, lv]
  row : Bk w bb 118 (bytes D.B.flatten)
  all : All64 D.B
  own : Own w 120 129 lv D.L.length (lcells D.L)
  lall : LAll D.B D.L
  ne1 : pd ≠ bb
  ne2 : pd ∉ fp lv
  ne3 : bb ∉ fp lv
  len : D.B.length ≤ 65536
/-- Nothing of the disk is touched. -/
theorem Dk.fr {w w' : World} {pd bb : Nat} {lv : Value} {D : Dsk} {X : List Nat} (h : Dk w pd bb lv D) (f : Fr X w w') (h1 : pd ∉ X) (h2 : bb ∉ X) (h3 : ∀ i ∈ fp lv, i ∉ X) : Dk w' pd bb lv D :=
  ⟨h.blk.fr f h1, h.row.fr f h2, h.all, h.own.fr f h3, h.lall, h.ne1, h.ne2, h.ne3, h.len⟩
theorem Dk.fresh {w w' : World} {pd bb : Nat} {lv : Value} {D : Dsk} (h : Dk w pd bb lv D) (f : Fr [] w w') : Dk w' pd bb lv D := h.fr f (by simp) (by simp) (fun i _ => by simp)
theorem Dk.lt {w : World} {pd bb : Nat} {lv : Value} {D : Dsk} (h : Dk w pd bb lv D) : pd < w.heap.size ∧ bb < w.heap.size ∧ ∀ i ∈ fp lv, i < w.heap.size := ⟨h.blk.lt, h.row.lt, h.own.lt⟩
abbrev ptr (p : Nat) : Value := .pointer (some ⟨p, 0, none⟩)
theorem und26 : Try.prog.underlying 26 = some (.pointer (Try.prog.pointee 26)) := by kernel_rfl
theorem infoW : (Try.prog.info? 120).map (fun i => (i.zero, i.size, i.bytes)) = some (some ((zeroT Try.prog 120).getD undef), 129, 136) := by kernel_rfl
theorem infoK : (Try.prog.info? 118).map (fun i => (i.zero, i.size, i.bytes)) = some (some ((zeroT Try.prog 118).getD undef), 64, 64) := by kernel_rfl

section
variable {w : World} {pd bb : Nat} {lv : Value} {D : Dsk}
theorem dblocks_c (h : Dk w pd bb lv D) : CallF Try.prog 99 #[ptr pd] w fun r w' => r = .int .i64 D.B.length ∧ w' = w := by
  refine C_disk_Disk_Blocks_link ?_
  unfold C_disk_Disk_Blocks
  exact ptr_eql und26 (if_f rfl (nilC (fad (ldC_bk h.blk rfl (len ⟨rfl, rfl⟩)))))
theorem dloose_c (h : Dk w pd bb lv D) : CallF Try.prog 74 #[ptr pd] w fun r w' => r = .int .i64 D.L.length ∧ w' = w := by
  refine C_disk_Disk_Loose_link ?_
  unfold C_disk_Disk_Loose
  exact ptr_eql und26 (if_f rfl (nilC (fad (ldC_bk h.blk rfl (h.own.sl.lenV ⟨rfl, rfl⟩)))))
theorem dsync_c (h : Dk w pd bb lv D) : CallF Try.prog 69 #[ptr pd] w fun r w' => r = .int .i64 0 ∧ Dk w' pd bb (.slice none 0 0) ⟨D.B, []⟩ ∧ Fr [pd] w w' ∧ w'.heap.size = w.heap.size := by
  refine C_disk_Disk_Sync_link ?_
  unfold C_disk_Disk_Sync
  refine ptr_eql und26 (if_f rfl (nilC (fad (store' h.blk (by kernel_rfl) (by simp) rfl ?_))))
  intro w1 hB hF hs
  exact ⟨rfl, ⟨by simpa using hB, h.row.fr hF (by simp; exact fun e => h.ne1 e.symm), h.all, Own.nil _ _ _, by intro x hx; simp at hx, h.ne1, by simp [fp_nil], by simp [fp_nil], h.len⟩, hF, hs⟩
theorem dread_c (h : Dk w pd bb lv D) (n : Nat) : CallF Try.prog 100 #[ptr pd, .int .i64 n] w fun r w' => ∃ v, r = .tuple #[v, .int .i64 (if n < D.B.length then 0 else 8)] ∧ New w w' 5 1 v (D.B.getD n []).length (bytes (D.B.getD n [])) := by
  refine C_disk_Disk_Read_link ?_
  unfold C_disk_Disk_Read
  refine ptr_eql und26 (if_f rfl (lss ?_))
  refine gdT (by simp [isB]) rfl (gdT (by simp [isB]) rfl (gdT (by simp [isB]) (nilC rfl) (gdT (by simp [isB]) (fad rfl) (gdT (by simp [isB]) (ldC_bk h.blk rfl rfl) (gdT (by simp [isB]) (len rfl) (gdT (by simp [isB]) (geq rfl) (pick_f (by simp) ?_)))))))
  refine if_p (fun hge => ?_) (fun hlt => ?_)
  · have e : D.B.getD n [] = [] := by rw [List.getD_eq_getElem?_getD, List.getElem?_eq_none (by omega)]; rfl
    rw [if_neg (by omega), e]
    exact ⟨_, rfl, New.nil w _ 1⟩
  · have hn : n < D.B.length := by omega
    have e : D.B.getD n [] = D.B[n] := by rw [List.getD_eq_getElem?_getD, List.getElem?_eq_getElem hn]; rfl
    have hb := h.all _ (List.getElem_mem hn)
    have hg := flat_get h.all hn
    rw [if_pos hn, e]
    generalize D.B[n] = b at *
    refine nilC (fad (ldC_bk h.blk rfl (ixRow hn (ldA_bk h.row (by rw [bytes_length, flat_len h.all]; omega) ?_))))
    rw [bytes_drop, bytes_take, hg]
    refine alloc_n (n := 64) (by kernel_rfl) ?_
    intro p w1 l hl hp hB hF hs
    refine store_all hB (by kernel_rfl) hl (by rw [bytes_length]; exact hb.1) (by omega) (bytes_one _) ?_
    intro w2 hB2 hF2 hs2
    refine slcAll ?_
    have hF02 : Fr [] w w2 := hF.trans hF2 (fun i hi => .inr (by simp at hi; omega))
    refine append' (w0 := w2) (New.nil w2 _ 1) Try.underlying24 infoB rfl (by omega) (hB2.sl (n := 64) (by rw [bytes_length]; exact hb.1) 64) (bytes_one _) (by omega) (by omega) ?_
    intro v w3 hN _ _
    rw [Nat.zero_add, List.nil_append] at hN
    refine ⟨v, rfl, ?_⟩
    rw [hb.1]
    exact New.base hF02 hN
theorem dwrite_c (h : Dk w pd bb lv D) (n : Nat) {x : Value} {bs : List Nat} (hx : Sl w 1 x bs.length (bytes bs)) (hxl : bs.length ≤ 64) (hxb : ∀ c ∈ bs, c < 256) (hL : D.L.length ≤ 1000000000) :
    CallF Try.prog 17 #[ptr pd, .int .i64 n, x] w fun r w' => (∃ e, r = .int .i64 e) ∧ ∃ lv', Dk w' pd bb lv' (D.write n (pad bs)) ∧ Fr (pd :: bb :: fp lv) w w' ∧ (∀ i ∈ fp lv', i ∈ fp lv ∨ w.heap.size ≤ i) := by
  refine C_disk_Disk_Write_link ?_
  unfold C_disk_Disk_Write
  refine ptr_eql und26 (if_f rfl (lss ?_))
  refine gdT (by simp [isB]) rfl (gdT (by simp [isB]) rfl (gdT (by simp [isB]) (nilC rfl) (gdT (by simp [isB]) (fad rfl) (gdT (by simp [isB]) (ldC_bk h.blk rfl rfl) (gdT (by simp [isB]) (len rfl) (gdT (by simp [isB]) (geq rfl) (pick_f (by simp) ?_)))))))
  refine if_p (fun hge => ?_) (fun hlt => ?_)
  · have e : D.write n (pad bs) = D := by unfold Dsk.write; rw [if_neg (by omega)]
    rw [e]
    exact ⟨⟨_, rfl⟩, lv, h, Fr.refl _ _, fun i hi => .inl hi⟩
  have hn : n < D.B.length := by omega
  refine hx.lenV (gtr (if_p (fun hgt => absurd hgt (by omega)) (fun _ => ?_)))
  have hb := h.all _ (List.getElem_mem hn)
  have hg := flat_get h.all hn
  have hset := flat_set h.all (St.pad_length hxl) hn
  have hgd : D.B.getD n [] = D.B[n] := by rw [List.getD_eq_getElem?_getD, List.getElem?_eq_getElem hn]; rfl
  have e : D.write n (pad bs) = ⟨D.B.set n (pad bs), D.L ++ [(n, D.B[n], pad bs)]⟩ := by unfold Dsk.write; rw [if_pos hn, hgd]
  rw [e]
  generalize D.B[n] = c at *
  obtain ⟨lt1, lt2, lt3⟩ := h.lt
  refine alloc' (l := bytes (List.replicate 64 0)) (by kernel_rfl) ?_
  intro p w1 hp hB hF hs
  refine slcAll ?_
  refine do_copy (n := bs.length) (e := 5) Try.underlying24 (by kernel_rfl) hB (by simp [bytes]) (hx.fr hF (fun i _ => by simp)) (bytes_one _) hxl ?_
  intro _ w2 hB2 hF2 hs2
  have hpad : bytes bs ++ (bytes (List.replicate 64 0)).drop bs.length = bytes (pad bs) := by
    rw [bytes_drop, List.drop_replicate, ← bytes_append]; rfl
  rw [hpad] at hB2
  have hpl : (pad bs).length = 64 := St.pad_length hxl
  have hF02 : Fr [] w w2 := hF.trans hF2 (fun i hi => .inr (by simp at hi; omega))
  have h2 := h.fresh (hF02.t (Fr.drew [] w2))
  have hBd := hB2.drew
  have zd : (World.drew w2).heap.size = w2.heap.size := rfl
  have hpf : p ∉ fp lv := fun hm => by have := lt3 p hm; omega
  refine ⟨fun w' => Bk w' pd 116 [.slice (some ⟨bb, 0, none⟩) D.B.length D.B.length, lv] ∧ Bk w' bb 118 (bytes D.B.flatten) ∧ Bk w' p 118 (bytes (pad bs)), ⟨h2.blk, h2.row, hBd⟩, ?_⟩
  refine nilC (fad (ldC_S (fun w' h => h.1) rfl (nilC (fad (ldC_S (fun w' h => h.1) rfl ?_)))))
  refine ixRow hn (ldA_S (fun w' h => h.2.1) (by rw [bytes_length, flat_len h.all]; omega) (ldA_S (fun w' h => h.2.2) (by rw [bytes_length, hpl]; omega) ?_))
  rw [bytes_drop, bytes_take, hg, List.drop_zero, List.take_of_length_le (by rw [bytes_length, hpl]; omega)]
  have hcells : [Value.int .i64 n, .agg (bytes c).toArray, .agg (bytes (pad bs)).toArray].flatMap (fun v => v.cells.toList) = wcells (n, c, pad bs) := by simp [Value.cells, wcells]
  refine bldV (vals := [.int .i64 n, .agg (bytes c).toArray, .agg (bytes (pad bs)).toArray]) [1, 64, 64] (n := 129) (by kernel_rfl) (by kernel_rfl) rfl (by kernel_rfl) rfl (by simp [Value.cells, bytes_length, hb.1, hpl]) ?_
  rw [hcells]
  have hwl : (wcells (n, c, pad bs)).length = 129 := by simp [wcells, bytes_length, hb.1, hpl]
  refine lit1 (size := 129) Try.underlying114 infoW (by omega) (cs := wcells (n, c, pad bs)) (by simp [Value.cells]) hwl ?_
  intro q w3 hq hBq hF3 hs3
  have h3 := h2.fresh hF3
  refine ⟨⟨h3.blk, h3.row, hBd.fr hF3 (by simp)⟩, ?_⟩
  refine do_append Try.underlying114 infoW (by kernel_rfl) (by omega) h3.own (Bk.slN hBq (by rw [hwl]) 1) ?_ (by omega) (by omega) ?_
  · intro u hu
    unfold wcells at hu
    rcases List.mem_cons.1 hu with rfl | hu
    · rfl
    · rcases List.mem_append.1 hu with hu | hu
      · exact bytes_one _ u hu
      · exact bytes_one _ u hu
  intro lv' w4 ho4 hF4 hsub4
  have hpd4 : pd ∉ fp lv' := fun hm => (hsub4 pd hm).elim h.ne2 (fun h5 => by have := (hF02.t (Fr.drew [] w2)).size; have := hF3.size; omega)
  have hbb4 : bb ∉ fp lv' := fun hm => (hsub4 bb hm).elim h.ne3 (fun h5 => by have := (hF02.t (Fr.drew [] w2)).size; have := hF3.size; omega)
  have hp4 : p ∉ fp lv' := fun hm => (hsub4 p hm).elim hpf (fun h5 => by have := hF3.size; have := hB2.lt; omega)
  have hb4 := h3.blk.fr hF4 h.ne2
  have hr4 := h3.row.fr hF4 h.ne3
  have hB4 := (hBd.fr hF3 (by simp)).fr hF4 hpf
  refine ⟨⟨hb4, hr4, hB4⟩, ?_⟩
  obtain ⟨A4, c4, hlv'⟩ := ho4.len
  refine nilC (fad (store' hb4 (by kernel_rfl) (by simp) (by rw [hlv']; rfl) ?_))
  intro w5 hb5 hF5 hs5
  have hr5 := hr4.fr hF5 (by simp; exact fun e => h.ne1 e.symm)
  have hB5 := hB4.fr hF5 (by simp; omega)
  have ho5 := ho4.fr hF5 (fun i hi => by simp; intro e; subst e; exact hpd4 hi)
  have hb5' : Bk w5 pd 116 [.slice (some ⟨bb, 0, none⟩) D.B.length D.B.length, lv'] := by simpa using hb5
  refine ⟨fun w' => Bk w' pd 116 [.slice (some ⟨bb, 0, none⟩) D.B.length D.B.length, lv'] ∧ Bk w' p 118 (bytes (pad bs)), ⟨hb5'.drew, hB5.drew⟩, ?_⟩
  refine nilC (fad (ldC_S (fun w' h => h.1) rfl (ldA_S (fun w' h => h.2) (by rw [bytes_length, hpl]; omega) ?_)))
  rw [List.drop_zero, List.take_of_length_le (by rw [bytes_length, hpl]; omega)]
  refine ixRow hn ?_
  refine store_agg' (n := 64) hr5.drew (by kernel_rfl) (by rw [bytes_length, hpl]) (by omega) (by rw [bytes_length, flat_len h.all]; omega) (bytes_one _) ?_
  intro w6 hr6 hF6 hs6
  rw [hset] at hr6
  have hlset : (D.B.set n (pad bs)).length = D.B.length := List.length_set
  have hlc : lcells (D.L ++ [(n, c, pad bs)]) = lcells D.L ++ wcells (n, c, pad bs) := by simp [lcells]
  refine ⟨⟨_, rfl⟩, lv', ⟨by rw [hlset]; exact hb5'.drew.fr hF6 (by simp; exact h.ne1), hr6, St.set_64 h.all ⟨hpl, St.pad_lt hxb⟩, ?_, ?_, h.ne1, hpd4, hbb4, by rw [hlset]; exact h.len⟩, ?_, fun i hi => (hsub4 i hi).imp id (fun h5 => by have := (hF02.t (Fr.drew [] w2)).size; have := hF3.size; omega)⟩
  · rw [hlc, List.length_append]
    exact (ho5.fr (Fr.drew [] w5) (fun i _ => by simp)).fr hF6 (fun i hi => by simp; intro e; subst e; exact hbb4 hi)
  · intro y hy
    rw [hlset]
    rcases List.mem_append.1 hy with hy | hy
    · exact h.lall y hy
    · rw [List.mem_singleton.1 hy]
      exact ⟨hn, hb, hpl, St.pad_lt hxb⟩
  · have g3 : Fr [] w w3 := (hF02.t (Fr.drew [] w2)).t hF3
    have g4 : Fr (pd :: bb :: fp lv) w w4 := (g3.mono (fun i hi => by simp at hi)).trans hF4 (fun i hi => .inl (by simp [hi]))
    have g5 := g4.trans hF5 (fun i hi => .inl (by simp at hi; simp [hi]))
    exact (g5.t (Fr.drew _ w5)).trans hF6 (fun i hi => .inl (by simp at hi; simp [hi]))
end
end Go.Proofs.Ytmlaconjeplhpaa

set_option linter.unusedVariables false
set_option linter.unusedSimpArgs false
set_option maxRecDepth 20000
namespace Go.Proofs.Ytmlaconjeplhpaa
open Go Go.Vc
open St (Dsk All64 Blk pad undo)

theorem made_rep {z : Array Value} {m : Nat} {c : Value} (hz : z.toList = List.replicate m c) (hm : 0 < m) (k : Nat) : (madeCells z k).toList = List.replicate k c := by
  have hs : z.size = m := by rw [← Array.length_toList, hz, List.length_replicate]
  have hg : ∀ i, i < m → z[i]! = c := fun i hi => by
    have h1 : z[i]? = some c := by rw [← Array.getElem?_toList, hz, List.getElem?_replicate, if_pos hi]
    rw [getElem!_def, h1]
  have hall : ∀ x, z[x % z.size]! = c := fun x => hg _ (by rw [hs]; exact Nat.mod_lt _ hm)
  unfold madeCells
  simp only [hall, Array.toList_map, Array.toList_range]
  rw [List.map_const', List.length_range]
theorem make_z {P : Program} {w : World} {k : Value → World → Prop} {t e : TypeId} {z c : Value} {m bytes n : Nat} {kl kc : IntKind} (ht : P.underlying t = some (.slice e)) (hi : (P.info? e).map (fun i => (i.zero, i.size, i.bytes)) = some (some z, m, bytes)) (hz : z.cells.toList = List.replicate m c) (hm : 0 < m) (hb : bytes * n ≤ 281474976710656) (hc : n ≤ 140737488355328)
    (h : ∀ b w', w.heap.size = b → Bk w' b e (List.replicate (n * m) c) → Fr [] w w' → w'.heap.size = b + 1 → k (.slice (some ⟨b, 0, none⟩) n n) w') : Do P (Instr.makeSlice t (.int kl (n : Int)) (.int kc (n : Int))) w k := by
  obtain ⟨i, hi', hz', hs, hby⟩ := info_of hi
  subst hby
  subst hs
  have hb' : (i.bytes : Int) * (n : Int) ≤ 281474976710656 := by
    have h : ((i.bytes * n : Nat) : Int) ≤ 281474976710656 := by omega
    rwa [Int.natCast_mul] at h
  have hr := run_make (P := P) w t e i z ht hi' hz' kl kc n n (by omega) (Int.le_refl _) hb' (by omega)
  simp only [Int.toNat_natCast] at hr
  refine ⟨_, _, hr, h _ _ rfl ?_ (Fr.alloc _ _ _) (alloc_size _ _)⟩
  have := made_rep hz hm (n * i.size)
  have e2 : madeCells z.cells (n * i.size) = (List.replicate (n * i.size) c).toArray := by apply Array.ext'; rw [this]
  rw [e2]
  exact alloc_new w _
theorem flat_rep (n : Nat) : (List.replicate n (List.replicate 64 0)).flatten = List.replicate (n * 64) 0 := by
  induction n with
  | zero => rfl
  | succ n ih => rw [List.replicate_succ, List.flatten_cons, ih, List.replicate_append_replicate]; congr 1; omega
def newD (n : Nat) : Dsk := ⟨List.replicate n (List.replicate 64 0), []⟩
theorem dnew_c {w : World} {n : Nat} (h1 : 1 ≤ n) (h2 : n ≤ 65536) : CallF Try.prog 16 #[.int .i64 n] w fun r w' => ∃ pd bb, r = .tuple #[ptr pd, .int .i64 0] ∧ Dk w' pd bb (.slice none 0 0) (newD n) ∧ Fr [] w w' ∧ w.heap.size ≤ pd ∧ w.heap.size ≤ bb := by
  refine C_disk_New_link ?_
  unfold C_disk_New
  refine lss (gdT (by simp [isB]; omega) rfl (gdT (by simp [isB]; omega) (gtr rfl) (pick_f (by simp; omega) (if_p (fun h => absurd h (by omega)) (fun _ => ?_)))))
  refine make_z (n := n) Try.underlying113 infoK (c := .int .u8 0) (by kernel_rfl) (by omega) (by omega) (by omega) ?_
  intro bb w1 hbb hB hF hs
  refine ⟨[.slice (some ⟨bb, 0, none⟩) n n, .slice none 0 0], by kernel_rfl, by kernel_rfl, ?_⟩
  refine box' (l := [.slice (some ⟨bb, 0, none⟩) n n, .slice none 0 0]) rfl ?_
  intro pd w2 hpd hB2 hF2 hs2
  have hr : (newD n).B.length = n := by simp [newD]
  refine ⟨pd, bb, rfl, ⟨by rw [hr]; exact hB2, ?_, ?_, Own.nil _ _ _, fun x hx => by simp [newD] at hx, by omega, by simp [fp_nil], by simp [fp_nil], by rw [hr]; exact h2⟩, hF.t hF2, by omega, by omega⟩
  · have e : bytes (newD n).B.flatten = List.replicate (n * 64) (.int .u8 0) := by
      show bytes ((List.replicate n (List.replicate 64 0)).flatten) = _
      rw [flat_rep]; simp [bytes]
    rw [e]
    exact hB.fr hF2 (by simp)
  · intro b hb
    rw [List.eq_of_mem_replicate hb]
    exact ⟨by simp, fun x hx => by rw [List.eq_of_mem_replicate hx]; omega⟩
theorem undo_set (B : List Blk) (L : List (Nat × Blk × Blk)) {j : Nat} (hj : j < L.length) : undo B (L.drop j) = (undo B (L.drop (j + 1))).set L[j].1 L[j].2.1 := by
  rw [List.drop_eq_getElem_cons hj]; rfl
theorem undo_64 {B : List Blk} (h : All64 B) : ∀ {L : List (Nat × Blk × Blk)}, LAll B L → All64 (undo B L)
  | [], _ => h
  | x :: L, hl => St.set_64 (undo_64 h (fun y hy => hl y (by simp [hy]))) (hl x (by simp)).2.1
theorem dcrash_c {w : World} {pd bb : Nat} {lv : Value} {D : Dsk} (h : Dk w pd bb lv D) (hL : D.L.length ≤ 1000000000) (keep : Nat) : CallF Try.prog 39 #[ptr pd, .int .i64 keep] w fun r w' => r = .int .i64 0 ∧ Dk w' pd bb (.slice none 0 0) ⟨D.at keep, []⟩ ∧ Fr [pd, bb] w w' := by
  refine C_disk_Disk_Crash_link ?_
  unfold C_disk_Disk_Crash
  refine ptr_eql und26 (if_f rfl (lss (if_p (fun h => absurd h (by omega)) (fun _ => ?_))))
  refine nilC (fad (ldC_bk h.blk rfl (h.own.sl.lenV (sub64 (by omega) ?_))))
  have hDL := Nat.le_refl D.L.length
  have dk0 : ∀ {B' : List Blk}, B'.length = D.B.length → LAll B' D.L := fun hb x hx => by rw [hb]; exact h.lall x hx
  refine ⟨fun m i w' => ∃ j : Nat, j ≤ D.L.length ∧ m = j ∧ i = .int .i64 ((j : Int) - 1) ∧ (j = D.L.length ∨ keep ≤ j) ∧ Dk w' pd bb lv ⟨undo D.B (D.L.drop j), D.L⟩ ∧ Fr [pd, bb] w w', D.L.length,
    ⟨D.L.length, Nat.le_refl _, rfl, rfl, .inl rfl, by rw [List.drop_length]; exact h, Fr.refl _ _⟩, ?_⟩
  rintro m i w1 ⟨j, hj, hmj, rfl, hjk, h1, hF1⟩
  refine geq (if_p (fun hge => ?_) (fun hlt => ?_))
  · obtain ⟨j', rfl⟩ : ∃ j', j = j' + 1 := ⟨j - 1, by omega⟩
    have hj' : j' < D.L.length := by omega
    have ej : ((j' + 1 : Nat) : Int) - 1 = (j' : Int) := by omega
    rw [ej]
    obtain ⟨hl1, hl2, hl3⟩ := h.lall _ (List.getElem_mem hj')
    obtain ⟨k1, k2⟩ := lcells_get h.lall hj'
    have hlen := lcells_len h.lall
    have hu := undo_set D.B D.L hj'
    have hul : (undo D.B (D.L.drop (j' + 1))).length = D.B.length := St.undo_length _ _
    have hall := h1.all
    simp only at hall
    generalize D.L[j'] = y at *
    have hd := h1.fresh (Fr.drew [] w1)
    have hsl : Sl (World.drew w1) 129 lv D.L.length (lcells D.L) := hd.own.sl
    refine ⟨fun w' => Bk w' pd 116 [.slice (some ⟨bb, 0, none⟩) (undo D.B (D.L.drop (j' + 1))).length (undo D.B (D.L.drop (j' + 1))).length, lv] ∧ Sl w' 129 lv D.L.length (lcells D.L), ⟨hd.blk, hsl⟩, ?_⟩
    refine nilC (fad (ldC_S (fun w' h => h.1) rfl (nilC (fad (ldC_S (fun w' h => h.1) rfl ?_)))))
    refine ixFC (u := .int .i64 (y.1 : Int)) (fun w' h => h.2) hsl hj' (by rw [Nat.add_zero]; exact k1) ?_
    refine nilC (fad (ldC_S (fun w' h => h.1) rfl ?_))
    refine ixFA (m := 64) (fun w' h => h.2) hsl hj' (by rw [hlen]; omega) ?_
    rw [k2]
    refine ixRow (by rw [hul]; exact hl1) ?_
    have hrow := hd.row
    simp only at hrow
    refine store_agg' (n := 64) hrow (by kernel_rfl) (by rw [bytes_length, hl2.1]) (by omega) (by rw [bytes_length, flat_len hall, hul]; omega) (bytes_one _) ?_
    intro w2 hB2 hF2 hs2
    rw [flat_set hall hl2.1 (by rw [hul]; exact hl1), ← hu] at hB2
    refine sub64 (by omega) ⟨j', by omega, j', by omega, rfl, rfl, .inr (by omega), ?_, ?_⟩
    · have hul' : (undo D.B (D.L.drop j')).length = D.B.length := St.undo_length _ _
      have hb := hd.blk.fr hF2 (by simp; exact h.ne1)
      simp only [hul] at hb
      refine ⟨by simp only [hul']; exact hb, hB2, undo_64 h.all (fun x hx => h.lall x (List.mem_of_mem_drop hx)), hd.own.fr hF2 (fun i hi => by simp; intro e; subst e; exact h.ne3 hi), dk0 hul', h.ne1, h.ne2, h.ne3, by simp only [hul']; exact h.len⟩
    · exact (hF1.t (Fr.drew _ w1)).trans hF2 (fun i hi => .inl (by simp at hi; simp [hi]))
  · refine nilC (fad (store' h1.blk (by kernel_rfl) (by simp) rfl ?_))
    intro w2 hB2 hF2 hs2
    have he : undo D.B (D.L.drop j) = D.at keep := by
      unfold Dsk.at
      rcases hjk with hj2 | hj2
      · rw [hj2, List.drop_length, List.drop_of_length_le (by omega)]
      · rw [show j = keep by omega]
    rw [← he]
    have hrow := h1.row
    have hall := h1.all
    have hlen := h1.len
    simp only at hrow hall hlen
    exact ⟨rfl, ⟨by simpa using hB2, hrow.fr hF2 (by simp; exact fun e => h.ne1 e.symm), hall, Own.nil _ _ _, fun x hx => by simp at hx, h.ne1, by simp [fp_nil], by simp [fp_nil], hlen⟩, hF1.trans hF2 (fun i hi => .inl (by simp at hi; simp [hi]))⟩
end Go.Proofs.Ytmlaconjeplhpaa

set_option linter.unusedVariables false
set_option linter.unusedSimpArgs false
set_option maxRecDepth 20000
namespace Go.Proofs.Ytmlaconjeplhpaa
open Go Go.Vc
open St (Dsk All64 Blk pad four put4 halfN base)

theorem or32 {P : Program} {S : World → Prop} {t : TypeId} {cx cy : Bool} {x y i : Nat} {k : Value → Prop} (hx : x < 2 ^ i) (hxy : y * 2 ^ i + x < 4294967296) (h : k (.int .u32 ((x + y * 2 ^ i : Nat) : Int))) :
    Bin P S .or t cx cy (.int .u32 (x : Int)) (.int .u32 ((y * 2 ^ i : Nat) : Int)) k := by
  refine ⟨rfl, ?_⟩
  have e1 : BitVec.ofInt 32 (x : Int) = BitVec.ofNat 32 x := BitVec.ofInt_natCast 32 _
  have e2 : BitVec.ofInt 32 ((y * 2 ^ i : Nat) : Int) = BitVec.ofNat 32 (y * 2 ^ i) := BitVec.ofInt_natCast 32 _
  have e3 : (BitVec.ofInt IntKind.u32.bits (x : Int) ||| BitVec.ofInt IntKind.u32.bits ((y * 2 ^ i : Nat) : Int)).toNat = x + y * 2 ^ i := by
    show (BitVec.ofInt 32 (x : Int) ||| BitVec.ofInt 32 ((y * 2 ^ i : Nat) : Int)).toNat = x + y * 2 ^ i
    rw [e1, e2, BitVec.toNat_or, BitVec.toNat_ofNat, BitVec.toNat_ofNat, Nat.mod_eq_of_lt (by omega), Nat.mod_eq_of_lt (by omega)]
    have := Nat.two_pow_add_eq_or_of_lt (i := i) (b := x) hx y
    rw [Nat.or_comm, Nat.mul_comm y, ← this]
    omega
  rw [e3]
  have e4 : IntKind.u32.wrap ((x + y * 2 ^ i : Nat) : Int) = ((x + y * 2 ^ i : Nat) : Int) := by
    rw [IntKind.wrap_u32]; omega
  rw [e4]
  exact h
theorem shl32 {P : Program} {S : World → Prop} {t : TypeId} {cx cy : Bool} {y i : Nat} {k : Value → Prop} (hi : i ≤ 32) (hy : y * 2 ^ i < 4294967296) (h : k (.int .u32 ((y * 2 ^ i : Nat) : Int))) :
    Bin P S .shl t cx cy (.int .u32 (y : Int)) (.int .u64 (i : Int)) k := by
  refine shlw (n := i) rfl (by simpa [IntKind.bits] using hi) ?_
  rw [IntKind.wrap_u32]
  have : ((y : Int) * 2 ^ i) = ((y * 2 ^ i : Nat) : Int) := by push_cast; rfl
  rw [this]
  have e : ((y * 2 ^ i : Nat) : Int) % 4294967296 = ((y * 2 ^ i : Nat) : Int) := by omega
  rw [e]
  exact h
theorem conv_u32 {κ : IntKind} {a : Int} {k : Value → Prop} (h0 : 0 ≤ a ∧ a < 4294967296) (h : k (.int .u32 a)) : ConvI .u32 (.int κ a) k := by
  show k _
  rw [IntKind.wrap_u32]
  have : a % 4294967296 = a := by omega
  rw [this]; exact h
theorem four_c {w : World} {v : Value} {l : List Nat} (hs : Sl w 1 v l.length (bytes l)) (h4 : 4 ≤ l.length) (hb : ∀ b ∈ l, b < 256) : CallF Try.prog 68 #[v] w fun r w' => r = .int .u32 (four l) ∧ Fr [] w w' := by
  refine C_store_four_link ?_
  unfold C_store_four
  have hd : Sl (World.drew w) 1 v l.length (bytes l) := hs.fr (Fr.drew [] w) (by simp)
  match l, h4 with
  | a :: b :: c :: d :: r, _ =>
    have ha := hb a (by simp)
    have hb' := hb b (by simp)
    have hc := hb c (by simp)
    have hd' := hb d (by simp)
    have hf : four (a :: b :: c :: d :: r) = a + 256 * b + 65536 * c + 16777216 * d := rfl
    refine ⟨fun w' => Sl w' 1 v (a :: b :: c :: d :: r).length (bytes (a :: b :: c :: d :: r)), hd, ?_⟩
    have ix : ∀ {i : Nat} {u : Value} {k : Value → Prop}, i < (a :: b :: c :: d :: r).length → (bytes (a :: b :: c :: d :: r))[i]? = some u → k u → IAdS 1 v (.int .i64 (i : Nat)) fun t => LdC (fun w' => Sl w' 1 v (a :: b :: c :: d :: r).length (bytes (a :: b :: c :: d :: r))) t k :=
      fun hi hu hk => ix1S (fun w' h => h) hd hi hu hk
    refine ix (i := 0) (by simp) rfl (conv_u32 (by omega) ?_)
    refine ix (i := 1) (by simp) rfl (conv_u32 (by omega) (shl32 (i := 8) (by omega) (by omega) (or32 (i := 8) (by omega) (by omega) ?_)))
    refine ix (i := 2) (by simp) rfl (conv_u32 (by omega) (shl32 (i := 16) (by omega) (by omega) (or32 (i := 16) (by omega) (by omega) ?_)))
    refine ix (i := 3) (by simp) rfl (conv_u32 (by omega) (shl32 (i := 24) (by omega) (by omega) (or32 (i := 24) (by omega) (by omega) ?_)))
    refine ⟨?_, Fr.drew [] w⟩
    rw [hf]
    congr 1
    omega
/-- A row of bytes that has been made since w0. -/
abbrev Row (w0 w : World) (v : Value) (bs : List Nat) : Prop := New w0 w 5 1 v bs.length (bytes bs)
theorem row_append {w0 w : World} {v x : Value} {bs l : List Nat} {k : Value → World → Prop} (hN : Row w0 w v bs) (hx : Sl w 1 x l.length (bytes l)) (hb : bs.length + l.length ≤ 140737488355328)
    (h : ∀ v' w', Row w0 w' v' (bs ++ l) → Fr (fp v) w w' → (∀ i ∈ fp v', i ∈ fp v ∨ w.heap.size ≤ i) → k v' w') : Do Try.prog (Builtin.append_ #[24, 24] 24 #[v, x]) w k := by
  refine append' hN Try.underlying24 infoB rfl (by omega) hx (bytes_one l) (by omega) (by omega) ?_
  intro v' w' hN' hf hs
  rw [← bytes_append, ← List.length_append] at hN'
  exact h v' w' hN' hf hs
theorem row_nil (w : World) : Row w w (.slice none 0 0) [] := New.nil w _ 1
theorem put_c {w0 w : World} {v : Value} {bs : List Nat} (hN : Row w0 w v bs) (x : Nat) (hb : bs.length ≤ 1000000) :
    CallF Try.prog 72 #[v, .int .u32 x] w fun r w' => Row w0 w' r (bs ++ put4 x) := by
  refine C_store_put_link ?_
  unfold C_store_put
  refine conv_u8 (shrn (n := 8) rfl (by decide) (by omega) (conv_u8 (shrn (n := 16) rfl (by decide) (by omega) (conv_u8 (shrn (n := 24) rfl (by decide) (by omega) (conv_u8 ?_))))))
  have e : [Value.int .u8 ((x : Int) % 256), .int .u8 ((x : Int) / 2 ^ 8 % 256), .int .u8 ((x : Int) / 2 ^ 16 % 256), .int .u8 ((x : Int) / 2 ^ 24 % 256)] = bytes (put4 x) := by
    simp only [bytes, put4, List.map_cons, List.map_nil]
    congr 2
  refine lit' (vs := bytes (put4 x)) Try.underlying24 infoB rfl (by rw [← e]; rfl) rfl (by omega) (fun v hv => by obtain ⟨_, _, rfl⟩ := List.mem_map.1 hv; rfl) ?_
  intro b w1 hb1 hB hF hs
  refine row_append (hN.fresh hF) (hB.sl (n := (put4 x).length) (by rw [bytes_length]) 4) (by rw [St.put4_length]; omega) ?_
  intro v' w2 hN2 _ _
  exact hN2

/-- A store stands at ps, on its disk. -/
structure Sk (w : World) (ps pd bb : Nat) (lv tv : Value) (D : Dsk) (gen life at' count safe : Nat) (tail : List Nat) : Prop where
  dk : Dk w pd bb lv D
  blk : Bk w ps 124 [ptr pd, .int .u32 gen, .int .u32 life, tv, .int .i64 at', .int .i64 count, .int .i64 safe]
  tl : Own w 5 1 tv tail.length (bytes tail)
  s1 : ps ≠ pd
  s2 : ps ≠ bb
  s3 : ps ∉ fp lv
  s4 : ps ∉ fp tv
  s5 : pd ∉ fp tv
  s6 : bb ∉ fp tv
  s7 : ∀ i ∈ fp lv, i ∉ fp tv
  g : gen < 4294967296
  l : life < 4294967296
def skX (ps pd bb : Nat) (lv tv : Value) : List Nat := ps :: pd :: bb :: (fp lv ++ fp tv)
theorem Sk.fresh {w w' : World} {ps pd bb : Nat} {lv tv : Value} {D : Dsk} {gen life at' count safe : Nat} {tail : List Nat} (h : Sk w ps pd bb lv tv D gen life at' count safe tail) (f : Fr [] w w') : Sk w' ps pd bb lv tv D gen life at' count safe tail :=
  ⟨h.dk.fresh f, h.blk.fr f (by simp), h.tl.fr f (fun i _ => by simp), h.s1, h.s2, h.s3, h.s4, h.s5, h.s6, h.s7, h.g, h.l⟩
theorem Sk.fr {w w' : World} {ps pd bb : Nat} {lv tv : Value} {D : Dsk} {gen life at' count safe : Nat} {tail : List Nat} {X : List Nat} (h : Sk w ps pd bb lv tv D gen life at' count safe tail) (f : Fr X w w') (hx : ∀ i ∈ skX ps pd bb lv tv, i ∉ X) : Sk w' ps pd bb lv tv D gen life at' count safe tail :=
  ⟨h.dk.fr f (hx _ (by simp [skX])) (hx _ (by simp [skX])) (fun i hi => hx _ (by simp [skX, hi])), h.blk.fr f (hx _ (by simp [skX])), h.tl.fr f (fun i hi => hx _ (by simp [skX, hi])), h.s1, h.s2, h.s3, h.s4, h.s5, h.s6, h.s7, h.g, h.l⟩
section
variable {w : World} {ps pd bb : Nat} {lv : Value} {D : Dsk} {gen life : Nat} {tvv : Value} {rest : List Value}
theorem half_c (h : Dk w pd bb lv D) (hb : Bk w ps 124 (ptr pd :: rest)) : CallF Try.prog 73 #[ptr ps] w fun r w' => r = .int .i64 (halfN D.B : Nat) ∧ w' = w := by
  refine C_store_Store_half_link ?_
  unfold C_store_Store_half
  refine nilC (fad (ldC_bk hb rfl ((dblocks_c h).use ?_)))
  rintro _ w1 ⟨rfl, rfl⟩
  have hl := h.len
  refine sub64 (by omega) (max2 (quo (by omega) ⟨?_, rfl⟩))
  have e : (if (0 : Int) > (D.B.length : Int) - 2 then (0 : Int) else (D.B.length : Int) - 2) = ((D.B.length - 2 : Nat) : Int) := by split <;> omega
  rw [e]
  have e2 : (((D.B.length - 2 : Nat) : Int).tdiv 2) = ((halfN D.B : Nat) : Int) := rfl
  rw [e2, Go.IntWalk.i64_in _ (by unfold halfN; omega)]
theorem place_c (h : Dk w pd bb lv D) (hb : Bk w ps 124 (ptr pd :: .int .u32 gen :: rest)) (i : Nat) (hi : i ≤ 1000000000) : CallF Try.prog 102 #[ptr ps, .int .i64 i] w fun r w' => r = .int .i64 (base (halfN D.B) gen + i : Nat) ∧ Fr [] w w' := by
  refine C_store_Store_place_link ?_
  unfold C_store_Store_place
  refine ⟨fun w' => Bk w' ps 124 (ptr pd :: .int .u32 gen :: rest), hb.drew, ?_⟩
  refine nilC (fad (ldC_S (fun w' h => h) rfl (rem (by omega) ?_)))
  have e : ((gen : Int).tmod 2) = ((gen % 2 : Nat) : Int) := rfl
  rw [e]
  refine conv_i64 (by omega) ?_
  refine (half_c (h.fresh (Fr.drew [] w)) hb.drew).use ?_
  rintro _ w1 ⟨rfl, rfl⟩
  have hl := h.len
  have hh : halfN D.B ≤ 32768 := by unfold halfN; omega
  have hm : gen % 2 * halfN D.B ≤ 32768 := by
    have : gen % 2 = 0 ∨ gen % 2 = 1 := by omega
    rcases this with h3 | h3 <;> rw [h3] <;> omega
  have e2 : ((gen % 2 : Nat) : Int) * ((halfN D.B : Nat) : Int) = ((gen % 2 * halfN D.B : Nat) : Int) := by push_cast; rfl
  refine ⟨hb.drew, mul64 (by rw [e2]; omega) ?_⟩
  rw [e2]
  refine add64 (by omega) (add64 (by omega) ⟨?_, Fr.drew [] w⟩)
  unfold base
  congr 1
end
theorem fits_c {w : World} {ps pd bb : Nat} {lv tv : Value} {D : Dsk} {gen life at' count safe : Nat} {tail : List Nat} (h : Sk w ps pd bb lv tv D gen life at' count safe tail) (n : Nat) (hn : at' ≤ 1000000000 ∧ tail.length ≤ 1000000000) :
    CallF Try.prog 70 #[ptr ps, .int .i64 n] w fun r w' => r = .bool (decide ((n : Int) ≤ ((halfN D.B : Nat) - (at' : Int)) * 55 - tail.length)) ∧ Fr [] w w' := by
  refine C_store_Store_fits_link ?_
  unfold C_store_Store_fits
  refine ⟨fun w' => Bk w' ps 124 [ptr pd, .int .u32 gen, .int .u32 life, tv, .int .i64 at', .int .i64 count, .int .i64 safe], h.blk.drew, ?_⟩
  refine nilC (fad (ldC_S (fun w' h => h) rfl (nilC (fad (ldC_S (fun w' h => h) rfl (h.tl.sl.lenV ?_))))))
  refine (half_c (h.dk.fresh (Fr.drew [] w)) h.blk.drew).use ?_
  rintro _ w1 ⟨rfl, rfl⟩
  have hl := h.dk.len
  have hh : halfN D.B ≤ 32768 := by unfold halfN; omega
  exact ⟨h.blk.drew, sub64 (by omega) (mul64 (by omega) (sub64 (by omega) (leq ⟨rfl, Fr.drew [] w⟩)))⟩
end Go.Proofs.Ytmlaconjeplhpaa

set_option linter.unusedVariables false
set_option linter.unusedSimpArgs false
set_option maxRecDepth 20000
namespace Go.Proofs.Ytmlaconjeplhpaa
open Go Go.Vc
open St (Dsk All64 Blk pad four put4 halfN base putF mkL mkB)

/-- A slice of bytes to a place. -/
theorem bhi {w : World} {v : Value} {bs : List Nat} {m : Nat} {κ : IntKind} {k : Value → Prop} (hs : Sl w 1 v bs.length (bytes bs)) (hc : capOk v) (hl : m ≤ bs.length)
    (h : ∀ v', Sl w 1 v' (bs.take m).length (bytes (bs.take m)) → capOk v' → (∀ i ∈ fp v', i ∈ fp v) → k v') : SlcS 1 v none (some (.int κ m)) none k := by
  refine slcHi hs hc hl ?_
  intro v' h1 h2 h3
  rw [Nat.mul_one, bytes_take] at h1
  exact h v' (by rw [List.length_take, Nat.min_eq_left hl]; exact h1) h2 h3
theorem blo {w : World} {v : Value} {bs : List Nat} {l : Nat} {κ : IntKind} {k : Value → Prop} (hs : Sl w 1 v bs.length (bytes bs)) (hc : capOk v) (hl : l ≤ bs.length)
    (h : ∀ v', Sl w 1 v' (bs.drop l).length (bytes (bs.drop l)) → capOk v' → (∀ i ∈ fp v', i ∈ fp v) → k v') : SlcS 1 v (some (.int κ l)) none none k := by
  refine slcLo hs hc hl ?_
  intro v' h1 h2 h3
  rw [Nat.mul_one, Nat.mul_one, bytes_drop, List.take_of_length_le (by rw [bytes_length, List.length_drop]; omega)] at h1
  exact h v' (by rw [List.length_drop]; exact h1) h2 h3
theorem blh {w : World} {v : Value} {bs : List Nat} {l m : Nat} {κ κ' : IntKind} {k : Value → Prop} (hs : Sl w 1 v bs.length (bytes bs)) (hc : capOk v) (hlm : l ≤ m) (hm : m ≤ bs.length)
    (h : ∀ v', Sl w 1 v' ((bs.take m).drop l).length (bytes ((bs.take m).drop l)) → capOk v' → (∀ i ∈ fp v', i ∈ fp v) → k v') : SlcS 1 v (some (.int κ l)) (some (.int κ' m)) none k := by
  refine slcLH hs hc hlm hm ?_
  intro v' h1 h2 h3
  have e : ((bytes bs).drop (l * 1)).take ((m - l) * 1) = bytes ((bs.take m).drop l) := by
    rw [Nat.mul_one, Nat.mul_one, bytes_drop, bytes_take, List.drop_take]
  rw [e] at h1
  exact h v' (by rw [List.length_drop, List.length_take, Nat.min_eq_left hm]; exact h1) h2 h3
theorem skX_mem {ps pd bb : Nat} {lv tv : Value} {i : Nat} : i ∈ skX ps pd bb lv tv ↔ i = ps ∨ i = pd ∨ i = bb ∨ i ∈ fp lv ∨ i ∈ fp tv := by
  simp [skX]
/-- The tail is another row. -/
theorem Sk.retail {w w2 w3 : World} {ps pd bb : Nat} {lv tv tv' : Value} {D : Dsk} {gen life at' at2 count count2 safe safe2 : Nat} {tail t2 : List Nat} (h : Sk w ps pd bb lv tv D gen life at' count safe tail) (ho : Own w2 5 1 tv' t2.length (bytes t2)) (hF : Fr (fp tv) w w2) (hs : ∀ i ∈ fp tv', i ∈ fp tv ∨ w.heap.size ≤ i)
    (hB : Bk w3 ps 124 [ptr pd, .int .u32 gen, .int .u32 life, tv', .int .i64 at2, .int .i64 count2, .int .i64 safe2]) (hF3 : Fr [ps] w2 w3) : Sk w3 ps pd bb lv tv' D gen life at2 count2 safe2 t2 := by
  obtain ⟨l1, l2, l3⟩ := h.dk.lt
  have l4 := h.blk.lt
  have n4 : ps ∉ fp tv' := fun hm => (hs ps hm).elim h.s4 (by omega)
  have n5 : pd ∉ fp tv' := fun hm => (hs pd hm).elim h.s5 (by omega)
  have n6 : bb ∉ fp tv' := fun hm => (hs bb hm).elim h.s6 (by omega)
  have n7 : ∀ i ∈ fp lv, i ∉ fp tv' := fun i hi hm => (hs i hm).elim (h.s7 i hi) (by have := l3 i hi; omega)
  have hd2 := h.dk.fr hF h.s5 h.s6 h.s7
  exact ⟨hd2.fr hF3 (by simp; exact fun e => h.s1 e.symm) (by simp; exact fun e => h.s2 e.symm) (fun i hi => by simp; intro e; subst e; exact h.s3 hi), hB, ho.fr hF3 (fun i hi => by simp; intro e; subst e; exact n4 hi), h.s1, h.s2, h.s3, n4, n5, n6, n7, h.g, h.l⟩
/-- The fields of a store but its tail are set. -/
theorem Sk.refield {w w3 : World} {ps pd bb : Nat} {lv tv : Value} {D : Dsk} {gen life at' at2 count count2 safe safe2 : Nat} {tail : List Nat} (h : Sk w ps pd bb lv tv D gen life at' count safe tail)
    (hB : Bk w3 ps 124 [ptr pd, .int .u32 gen, .int .u32 life, tv, .int .i64 at2, .int .i64 count2, .int .i64 safe2]) (hF3 : Fr [ps] w w3) : Sk w3 ps pd bb lv tv D gen life at2 count2 safe2 tail :=
  h.retail h.tl ((Fr.refl _ w)) (fun i hi => .inl hi) hB hF3
/-- The disk is written. -/
theorem Sk.redisk {w w2 : World} {ps pd bb : Nat} {lv lv' tv : Value} {D D' : Dsk} {gen life at' count safe : Nat} {tail : List Nat} (h : Sk w ps pd bb lv tv D gen life at' count safe tail) (hd : Dk w2 pd bb lv' D') (hF : Fr (pd :: bb :: fp lv) w w2) (hs : ∀ i ∈ fp lv', i ∈ fp lv ∨ w.heap.size ≤ i) : Sk w2 ps pd bb lv' tv D' gen life at' count safe tail := by
  have l4 := h.blk.lt
  have l5 := h.tl.lt
  refine ⟨hd, h.blk.fr hF ?_, h.tl.fr hF ?_, h.s1, h.s2, fun hm => (hs ps hm).elim h.s3 (by omega), h.s4, h.s5, h.s6, fun i hi hm => (hs i hi).elim (fun h7 => h.s7 i h7 hm) (by have := l5 i hm; omega), h.g, h.l⟩
  · simp only [List.mem_cons, not_or]; exact ⟨h.s1, h.s2, h.s3⟩
  · intro i hi
    simp only [List.mem_cons, not_or]
    exact ⟨fun e => h.s5 (e ▸ hi), fun e => h.s6 (e ▸ hi), fun hm => h.s7 i hm hi⟩
theorem sub_trans {w w2 : World} {ps pd bb : Nat} {lv lv' tv tv' lv2 tv2 : Value} (h : ∀ i ∈ skX ps pd bb lv' tv', i ∈ skX ps pd bb lv tv ∨ w.heap.size ≤ i) (h2 : ∀ i ∈ skX ps pd bb lv2 tv2, i ∈ skX ps pd bb lv' tv' ∨ w2.heap.size ≤ i) (hs : w.heap.size ≤ w2.heap.size) : ∀ i ∈ skX ps pd bb lv2 tv2, i ∈ skX ps pd bb lv tv ∨ w.heap.size ≤ i :=
  fun i hi => (h2 i hi).elim (h i) (fun h => .inr (by omega))

theorem putF_succ (gen life bs n : Nat) (D : Dsk) (at' : Nat) (t : List Nat) : putF gen life bs (n + 1) D at' t =
    if t.length < 55 then (D.write (bs + at') (mkB gen life t), at', t)
    else if t.length = 55 then (D.write (bs + at') (mkB gen life t), at' + 1, [])
    else putF gen life bs n (D.write (bs + at') (mkB gen life (t.take 55))) (at' + 1) (t.drop 55) := rfl
theorem sput_c {w : World} {ps pd bb : Nat} {lv tv x : Value} {D : Dsk} {gen life at' count safe : Nat} {tail p : List Nat} (h : Sk w ps pd bb lv tv D gen life at' count safe tail) (hx : Sl w 1 x p.length (bytes p)) (htb : ∀ c ∈ tail ++ p, c < 256)
    (hat : at' ≤ 1000000) (htl : (tail ++ p).length ≤ 10000000) (hL : D.L.length ≤ 100000000) :
    CallF Try.prog 71 #[ptr ps, x] w fun r w' => r = .tuple #[] ∧ ∃ lv' tv' D' at2 t2, putF gen life (base (halfN D.B) gen) ((tail ++ p).length + 1) D at' (tail ++ p) = (D', at2, t2) ∧ Sk w' ps pd bb lv' tv' D' gen life at2 count safe t2 ∧
      Fr (skX ps pd bb lv tv) w w' ∧ (∀ i ∈ skX ps pd bb lv' tv', i ∈ skX ps pd bb lv tv ∨ w.heap.size ≤ i) ∧ D'.L.length ≤ D.L.length + ((tail ++ p).length + 1) := by
  refine C_store_Store_put_link ?_
  unfold C_store_Store_put
  refine nilC (fad (ldC_bk h.blk rfl ?_))
  rw [List.length_append] at htl
  refine do_append Try.underlying24 infoB rfl (by omega) h.tl hx (bytes_one _) (by omega) (by omega) ?_
  intro tv1 w1 ho1 hF1 hs1
  obtain ⟨A1, c1, htv1⟩ := ho1.len
  have hB1 := h.blk.fr hF1 h.s4
  refine nilC (fad (store' hB1 (by kernel_rfl) (by simp) (by rw [htv1]; rfl) ?_))
  intro w2 hB2 hF2 hs2
  have ho1' : Own w1 5 1 tv1 (tail ++ p).length (bytes (tail ++ p)) := by rw [bytes_append, List.length_append]; exact ho1
  have h2 : Sk w2 ps pd bb lv tv1 D gen life at' count safe (tail ++ p) := h.retail ho1' hF1 hs1 (by simpa using hB2) hF2
  have hF02 : Fr (skX ps pd bb lv tv) w w2 := (hF1.mono (fun i hi => .inl (skX_mem.2 (by simp [hi])))).trans hF2 (fun i hi => .inl (skX_mem.2 (by simp at hi; simp [hi])))
  have sub02 : ∀ i ∈ skX ps pd bb lv tv1, i ∈ skX ps pd bb lv tv ∨ w.heap.size ≤ i := fun i hi => by
    rcases skX_mem.1 hi with h1 | h1 | h1 | h1 | h1
    · exact .inl (skX_mem.2 (by simp [h1]))
    · exact .inl (skX_mem.2 (by simp [h1]))
    · exact .inl (skX_mem.2 (by simp [h1]))
    · exact .inl (skX_mem.2 (by simp [h1]))
    · exact (hs1 i h1).imp (fun h => skX_mem.2 (by simp [h])) id
  have htl' : (tail ++ p).length ≤ 10000000 := by rw [List.length_append]; exact htl
  generalize tail ++ p = T at *
  refine ⟨fun m w' => ∃ lv' tv' D' at2 t2, putF gen life (base (halfN D.B) gen) (T.length + 1) D at' T = putF gen life (base (halfN D.B) gen) m D' at2 t2 ∧ t2.length < m ∧ m ≤ T.length + 1 ∧ (∀ c ∈ t2, c < 256) ∧ at2 + t2.length ≤ at' + T.length ∧ halfN D'.B = halfN D.B ∧ D'.L.length + m ≤ D.L.length + (T.length + 1) ∧ Sk w' ps pd bb lv' tv' D' gen life at2 count safe t2 ∧
      Fr (skX ps pd bb lv tv) w w' ∧ (∀ i ∈ skX ps pd bb lv' tv', i ∈ skX ps pd bb lv tv ∨ w.heap.size ≤ i), T.length + 1,
    ⟨lv, tv1, D, at', T, rfl, by omega, Nat.le_refl _, htb, Nat.le_refl _, rfl, Nat.le_refl _, h2, hF02, sub02⟩, ?_⟩
  rintro m w3 ⟨lv3, tv3, D3, at3, t3, hput, hm, hmT, hb3, hat3, hh3, hL3, h3, hF03, sub03⟩
  obtain ⟨m', rfl⟩ : ∃ m', m = m' + 1 := ⟨m - 1, by omega⟩
  refine nilC (fad (ldC_bk h3.blk rfl (h3.tl.sl.lenV (min2 ?_))))
  obtain ⟨u, hu⟩ : ∃ u, min t3.length 55 = u := ⟨_, rfl⟩
  have eu : (if (55 : Int) < (t3.length : Int) then (55 : Int) else (t3.length : Int)) = (u : Int) := by split <;> omega
  rw [eu]
  refine nilC (fad (ldC_bk h3.blk rfl ?_))
  refine (put_c (row_nil w3) gen (by simp)).use ?_
  intro v4 w4 hN4
  rw [List.nil_append] at hN4
  have h4 := h3.fresh hN4.fr
  refine nilC (fad (ldC_bk h4.blk rfl ?_))
  refine (put_c hN4 life (by rw [St.put4_length]; omega)).use ?_
  intro v5 w5 hN5
  have h5 := h3.fresh hN5.fr
  have h5d := h5.fresh (Fr.drew [] w5)
  have hN5d := hN5.fresh (Fr.drew [] w5)
  have htake : (t3.take u).length = u := by rw [List.length_take]; omega
  have hmk : put4 gen ++ put4 life ++ [u] ++ t3.take u = mkL gen life (t3.take u) := by
    unfold mkL; rw [htake]; simp
  have hmkl : (mkL gen life (t3.take u)).length = 9 + u := by rw [St.mkL_length, htake]
  -- behind the write
  have cont : ∀ (w6 : World) (lv6 : Value), Sk w6 ps pd bb lv6 tv3 (D3.write (base (halfN D.B) gen + at3) (pad (mkL gen life (t3.take u)))) gen life at3 count safe t3 → Fr (skX ps pd bb lv3 tv3) w3 w6 → (∀ i ∈ skX ps pd bb lv6 tv3, i ∈ skX ps pd bb lv3 tv3 ∨ w3.heap.size ≤ i) →
      (Bin Try.prog (At w6) .lss 3 false true (.int .i64 u) (.int .i64 55) fun t56_32 =>
        If t56_32 (
         (Value.tuple #[] = .tuple #[] ∧ ∃ lv' tv' D' at2 t2, putF gen life (base (halfN D.B) gen) (T.length + 1) D at' T = (D', at2, t2) ∧ Sk w6 ps pd bb lv' tv' D' gen life at2 count safe t2 ∧
          Fr (skX ps pd bb lv tv) w w6 ∧ (∀ i ∈ skX ps pd bb lv' tv', i ∈ skX ps pd bb lv tv ∨ w.heap.size ≤ i) ∧ D'.L.length ≤ D.L.length + (T.length + 1))) (
         NilC (ptr ps) fun t59_33 =>
         FAd 3 t59_33 fun t60_34 =>
         LdC (At w6) t60_34 fun t61_35 =>
         SlcS 1 t61_35 (some (.int .i64 55)) none none fun t62_36 =>
         Do Try.prog (Builtin.append_ #[24, 24] 24 #[(.slice none 0 0), t62_36]) w6 fun t63_37 w_38 =>
         NilC (ptr ps) fun t64_39 =>
         FAd 3 t64_39 fun t65_40 =>
         DoU Try.prog (Instr.storeAt 24 t65_40 t63_37) w_38 fun u_41 w_42 =>
         NilC (ptr ps) fun t67_43 =>
         FAd 4 t67_43 fun t68_44 =>
         LdC (At w_42) t68_44 fun t69_45 =>
         Bin Try.prog (At w_42) .add 3 false true t69_45 (.int .i64 1) fun t70_46 =>
         NilC (ptr ps) fun t71_47 =>
         FAd 4 t71_47 fun t72_48 =>
         DoU Try.prog (Instr.storeAt 3 t72_48 t70_46) w_42 fun u_49 w_50 =>
         NilC (ptr ps) fun t74_51 =>
         FAd 3 t74_51 fun t75_52 =>
         LdC (At w_50) t75_52 fun t76_53 =>
         Len t76_53 fun t77_54 =>
         Bin Try.prog (At w_50) .eql 3 false true t77_54 (.int .i64 0) fun t78_55 =>
         If t78_55 (
          (Value.tuple #[] = .tuple #[] ∧ ∃ lv' tv' D' at2 t2, putF gen life (base (halfN D.B) gen) (T.length + 1) D at' T = (D', at2, t2) ∧ Sk w_50 ps pd bb lv' tv' D' gen life at2 count safe t2 ∧
           Fr (skX ps pd bb lv tv) w w_50 ∧ (∀ i ∈ skX ps pd bb lv' tv', i ∈ skX ps pd bb lv tv ∨ w.heap.size ≤ i) ∧ D'.L.length ≤ D.L.length + (T.length + 1))) (
          ∃ m_56, m_56 < m' + 1 ∧
          ∃ lv' tv' D' at2 t2, putF gen life (base (halfN D.B) gen) (T.length + 1) D at' T = putF gen life (base (halfN D.B) gen) m_56 D' at2 t2 ∧ t2.length < m_56 ∧ m_56 ≤ T.length + 1 ∧ (∀ c ∈ t2, c < 256) ∧ at2 + t2.length ≤ at' + T.length ∧ halfN D'.B = halfN D.B ∧ D'.L.length + m_56 ≤ D.L.length + (T.length + 1) ∧ Sk w_50 ps pd bb lv' tv' D' gen life at2 count safe t2 ∧
           Fr (skX ps pd bb lv tv) w w_50 ∧ (∀ i ∈ skX ps pd bb lv' tv', i ∈ skX ps pd bb lv tv ∨ w.heap.size ≤ i)))) := by
    intro w6 lv6 h6 hF36 sub36
    have hF06 : Fr (skX ps pd bb lv tv) w w6 := hF03.trans hF36 (fun i hi => sub03 i hi)
    have sub06 := sub_trans sub03 sub36 hF03.size
    have hwl : (D3.write (base (halfN D.B) gen + at3) (pad (mkL gen life (t3.take u)))).L.length ≤ D3.L.length + 1 := by unfold Dsk.write; split <;> simp
    have hwb : halfN (D3.write (base (halfN D.B) gen + at3) (pad (mkL gen life (t3.take u)))).B = halfN D.B := by
      rw [← hh3]; unfold Dsk.write; split
      · unfold halfN; simp
      · rfl
    rw [putF_succ gen life (base (halfN D.B) gen) m' D3 at3 t3] at hput
    have eB : pad (mkL gen life (t3.take u)) = mkB gen life (t3.take u) := rfl
    rw [eB] at h6 hwl hwb
    refine lss (if_p (fun hlt => ?_) (fun hge => ?_))
    · have e : t3.take u = t3 := List.take_of_length_le (by omega)
      rw [e] at h6 hwl
      rw [if_pos (by omega)] at hput
      exact ⟨rfl, lv6, tv3, _, _, _, hput, h6, hF06, sub06, by omega⟩
    · have hu55 : u = 55 := by omega
      subst hu55
      rw [if_neg (by omega)] at hput
      refine nilC (fad (ldC_bk h6.blk rfl (blo (l := 55) h6.tl.sl h6.tl.cap (by omega) ?_)))
      intro x7 hs7 _ _
      refine row_append (row_nil w6) hs7 (by simp; omega) ?_
      intro v7 w7 hN7 _ _
      rw [List.nil_append] at hN7
      obtain ⟨A7, c7, hv7⟩ := hN7.own.len
      have hB7 := h6.blk.fr hN7.fr (by simp)
      refine nilC (fad (store' hB7 (by kernel_rfl) (by simp) (by rw [hv7]; rfl) ?_))
      intro w8 hB8 hF8 hs8
      refine nilC (fad (ldC_bk hB8 rfl (add64 (by omega) ?_)))
      refine nilC (fad (store' hB8 (by kernel_rfl) (by simp) rfl ?_))
      intro w9 hB9 hF9 hs9
      have hB9' : Bk w9 ps 124 [ptr pd, .int .u32 gen, .int .u32 life, v7, .int .i64 ((at3 + 1 : Nat) : Int), .int .i64 count, .int .i64 safe] := by simpa using hB9
      have h9 : Sk w9 ps pd bb lv6 v7 _ gen life (at3 + 1) count safe (t3.drop 55) := h6.retail hN7.own (hN7.fr.mono (fun i hi => by simp at hi)) (fun i hi => .inr (hN7.new i hi)) hB9' (hF8.t hF9)
      have hF69 : Fr (skX ps pd bb lv6 tv3) w6 w9 := (hN7.fr.mono (fun i hi => by simp at hi)).trans (hF8.t hF9) (fun i hi => .inl (skX_mem.2 (by simp at hi; simp [hi])))
      have hF09 : Fr (skX ps pd bb lv tv) w w9 := hF06.trans hF69 (fun i hi => sub06 i hi)
      have sub69 : ∀ i ∈ skX ps pd bb lv6 v7, i ∈ skX ps pd bb lv6 tv3 ∨ w6.heap.size ≤ i := fun i hi => by
        rcases skX_mem.1 hi with h1 | h1 | h1 | h1 | h1
        · exact .inl (skX_mem.2 (by simp [h1]))
        · exact .inl (skX_mem.2 (by simp [h1]))
        · exact .inl (skX_mem.2 (by simp [h1]))
        · exact .inl (skX_mem.2 (by simp [h1]))
        · exact .inr (hN7.new i h1)
      have sub09 := sub_trans sub06 sub69 hF06.size
      have hdl : (t3.drop 55).length = t3.length - 55 := List.length_drop
      refine nilC (fad (ldC_bk hB9' rfl (hN7.own.sl.lenV (eql (if_p (fun he => ?_) (fun he => ?_))))))
      · have h55 : t3.length = 55 := by omega
        have e : t3.take 55 = t3 := List.take_of_length_le (by omega)
        have e2 : t3.drop 55 = [] := List.eq_nil_of_length_eq_zero (by omega)
        rw [e] at h9 hwl
        rw [e2] at h9
        rw [if_pos h55] at hput
        exact ⟨rfl, lv6, v7, _, _, _, hput, h9, hF09, sub09, by omega⟩
      · rw [if_neg (by omega)] at hput
        exact ⟨m', by omega, lv6, v7, _, at3 + 1, t3.drop 55, hput, by omega, by omega, fun c hc => hb3 c (List.mem_of_mem_drop hc), by omega, hwb, by omega, h9, hF09, sub09⟩
  refine ⟨fun w6 => ∃ lv6, Sk w6 ps pd bb lv6 tv3 (D3.write (base (halfN D.B) gen + at3) (pad (mkL gen life (t3.take u)))) gen life at3 count safe t3 ∧ Fr (skX ps pd bb lv3 tv3) w3 w6 ∧ (∀ i ∈ skX ps pd bb lv6 tv3, i ∈ skX ps pd bb lv3 tv3 ∨ w3.heap.size ≤ i), fun w6 ⟨lv6, k1, k2, k3⟩ => cont w6 lv6 k1 k2 k3, ?_⟩
  have hwrite : ∀ (w6 : World) (v6 : Value), Row w3 w6 v6 (mkL gen life (t3.take u)) → CallF Try.prog 17 #[ptr pd, .int .i64 (base (halfN D.B) gen + at3 : Nat), v6] w6 fun _ w7 =>
      Bk w7 ps 124 [ptr pd, .int .u32 gen, .int .u32 life, tv3, .int .i64 at3, .int .i64 count, .int .i64 safe] ∧ ∃ lv6, Sk w7 ps pd bb lv6 tv3 (D3.write (base (halfN D.B) gen + at3) (pad (mkL gen life (t3.take u)))) gen life at3 count safe t3 ∧ Fr (skX ps pd bb lv3 tv3) w3 w7 ∧ (∀ i ∈ skX ps pd bb lv6 tv3, i ∈ skX ps pd bb lv3 tv3 ∨ w3.heap.size ≤ i) := by
    intro w6 v6 hN6
    have h6 := h3.fresh hN6.fr
    refine (dwrite_c h6.dk (base (halfN D.B) gen + at3) hN6.own.sl (by rw [hmkl]; omega) (fun c hc => ?_) (by omega)).use ?_
    · unfold mkL at hc
      simp only [List.mem_append, List.mem_singleton] at hc
      rcases hc with (hc | hc) | hc | hc
      · exact St.put4_lt _ c hc
      · exact St.put4_lt _ c hc
      · omega
      · exact hb3 c (List.mem_of_mem_take hc)
    rintro _ w7 ⟨_, lv7, hd7, hF7, hs7⟩
    have h7 := h6.redisk hd7 hF7 hs7
    refine ⟨h7.blk, lv7, h7, (hN6.fr.mono (fun i hi => by simp at hi)).trans hF7 (fun i hi => .inl (skX_mem.2 ?_)), fun i hi => ?_⟩
    · simp only [List.mem_cons] at hi
      rcases hi with h1 | h1 | h1 <;> simp [h1]
    · rcases skX_mem.1 hi with h1 | h1 | h1 | h1 | h1
      · exact .inl (skX_mem.2 (by simp [h1]))
      · exact .inl (skX_mem.2 (by simp [h1]))
      · exact .inl (skX_mem.2 (by simp [h1]))
      · exact (hs7 i h1).imp (fun h => skX_mem.2 (by simp [h])) (fun h => by have := hN6.fr.size; omega)
      · exact .inl (skX_mem.2 (by simp [h1]))
  have hSr : ∀ {w' : World} {v' : Value} {bs' : List Nat}, Row w3 w' v' bs' → Bk w' ps 124 [ptr pd, .int .u32 gen, .int .u32 life, tv3, .int .i64 at3, .int .i64 count, .int .i64 safe] := fun hN => (h3.fresh hN.fr).blk
  refine ⟨fun w' => Bk w' ps 124 [ptr pd, .int .u32 gen, .int .u32 life, tv3, .int .i64 at3, .int .i64 count, .int .i64 safe], h5d.blk, ?_⟩
  refine nilC (fad (ldC_S (fun w' h => h) rfl (nilC (fad (ldC_S (fun w' h => h) rfl (conv_u8_in (by omega) (nilC (fad (ldC_S (fun w' h => h) rfl ?_)))))))))
  refine bhi (w := World.drew w5) (m := u) h5d.tl.sl h5d.tl.cap (by omega) ?_
  intro x6 hs6 _ hf6
  have hat9 : at3 ≤ 1000000000 := by omega
  have l3 := h3.tl.lt
  have hx6 : ∀ {w' : World}, Fr [] w3 w' → ∀ i ∈ fp x6, i < w3.heap.size := fun _ i hi => l3 i (hf6 i hi)
  -- behind the byte
  have tailA : ∀ (w7 : World) (v7 : Value), Row w3 w7 v7 (put4 gen ++ put4 life ++ [u]) → Sl w7 1 x6 (t3.take u).length (bytes (t3.take u)) →
      Do Try.prog (Builtin.append_ #[24, 24] 24 #[v7, x6]) w7 fun t53 w75 =>
        Bk w75 ps 124 [ptr pd, .int .u32 gen, .int .u32 life, tv3, .int .i64 at3, .int .i64 count, .int .i64 safe] ∧
        CallF Try.prog 17 #[ptr pd, .int .i64 (base (halfN D.B) gen + at3 : Nat), t53] w75 fun _ w7 =>
      Bk w7 ps 124 [ptr pd, .int .u32 gen, .int .u32 life, tv3, .int .i64 at3, .int .i64 count, .int .i64 safe] ∧ ∃ lv6, Sk w7 ps pd bb lv6 tv3 (D3.write (base (halfN D.B) gen + at3) (pad (mkL gen life (t3.take u)))) gen life at3 count safe t3 ∧ Fr (skX ps pd bb lv3 tv3) w3 w7 ∧ (∀ i ∈ skX ps pd bb lv6 tv3, i ∈ skX ps pd bb lv3 tv3 ∨ w3.heap.size ≤ i) := by
    intro w7 v7 hN7 hx7
    refine row_append hN7 hx7 (by simp only [List.length_append, htake, St.put4_length, List.length_singleton]; omega) ?_
    intro v8 w8 hN8 _ _
    rw [hmk] at hN8
    exact ⟨hSr hN8, hwrite w8 v8 hN8⟩
  have hpc : ∀ w', Fr [] (World.drew w5) w' → CallF Try.prog 102 #[ptr ps, .int .i64 at3] w' fun r w2 => r = .int .i64 (base (halfN D.B) gen + at3 : Nat) ∧ Fr [] w' w2 := by
    intro w' f
    have h' := h5d.fresh f
    have := place_c (rest := [.int .u32 life, tv3, .int .i64 at3, .int .i64 count, .int .i64 safe]) h'.dk h'.blk at3 hat9
    rw [hh3] at this
    exact this
  have one : ∀ {w6 : World} {k : Value → World → Prop}, (∀ b w7, Bk w7 b 5 (bytes [u]) → Fr [] w6 w7 → k (.slice (some ⟨b, 0, none⟩) 1 1) w7) → Do Try.prog (Instr.buildSlice 24 1 #[(0, .int .u8 (u : Int))]) w6 k := by
    intro w6 k hk
    refine lit' (vs := bytes [u]) Try.underlying24 infoB rfl rfl rfl (by omega) (by simp [bytes, Value.cells]) ?_
    intro b w7 _ hB hF _
    exact hk b w7 hB hF
  refine ⟨?_, ?_⟩
  · refine (hpc _ (Fr.refl _ _)).use ?_
    rintro _ w6 ⟨rfl, hF6⟩
    refine ⟨hSr (hN5d.fresh hF6), ?_⟩
    refine one ?_
    intro b7 w7 hB7 hF7
    have g7 := hF6.t hF7
    refine ⟨hSr (hN5d.fresh g7), ?_⟩
    refine row_append (l := [u]) (hN5d.fresh g7) (hB7.sl (n := 1) rfl 1) (by simp [put4]) ?_
    intro v8 w8 hN8 hF8 _
    refine ⟨hSr hN8, tailA w8 v8 hN8 ?_⟩
    exact (hs6.fr g7 (fun i _ => by simp)).fr hF8 (fun i hi hm => by have := hN5d.new i hm; have := hx6 (Fr.refl _ _) i hi; omega)
  · refine one ?_
    intro b6 w6 hB6 hF6
    refine ⟨hSr (hN5d.fresh hF6), ?_⟩
    refine (hpc _ hF6).use ?_
    rintro _ w7 ⟨rfl, hF7⟩
    have g7 := hF6.t hF7
    refine ⟨hSr (hN5d.fresh g7), ?_⟩
    refine row_append (l := [u]) (hN5d.fresh g7) ((hB6.fr hF7 (by simp)).sl (n := 1) rfl 1) (by simp [put4]) ?_
    intro v8 w8 hN8 hF8 _
    refine ⟨hSr hN8, tailA w8 v8 hN8 ?_⟩
    exact (hs6.fr g7 (fun i _ => by simp)).fr hF8 (fun i hi hm => by have := hN5d.new i hm; have := hx6 (Fr.refl _ _) i hi; omega)
end Go.Proofs.Ytmlaconjeplhpaa

set_option linter.unusedVariables false
set_option linter.unusedSimpArgs false
set_option maxRecDepth 20000
namespace Go.Proofs.Ytmlaconjeplhpaa
open Go Go.Vc
open St (Dsk All64 Blk pad four put4 halfN base putF mkL mkB eldest maxL lifeOf bGen bLife bUsed bDat rootF cand magicN hb walk)

theorem eldest_c {w : World} {pd bb : Nat} {lv : Value} {D : Dsk} (h : Dk w pd bb lv D) : CallF Try.prog 65 #[ptr pd] w fun r w' => r = .int .u32 (eldest D.B : Nat) ∧ Fr [] w w' := by
  refine C_store_eldest_link ?_
  unfold C_store_eldest
  have hlen := h.len
  refine ⟨fun m life n w' => ∃ j l : Nat, j + m = D.B.length + 2 ∧ 2 ≤ j ∧ n = .int .i64 j ∧ life = .int .u32 l ∧ l = maxL ((D.B.drop 2).take (j - 2)) ∧ l < 4294967296 ∧ Fr [] w w', D.B.length, ⟨2, 0, by omega, by omega, rfl, rfl, rfl, by omega, Fr.refl _ _⟩, ?_⟩
  rintro m _ _ w1 ⟨j, l, hj, hj2, rfl, rfl, hl, hlt, hF1⟩
  refine (dblocks_c (h.fresh hF1)).use ?_
  rintro _ w2 ⟨rfl, rfl⟩
  refine lss (if_p (fun hjn => ?_) (fun hjn => ?_))
  · have hjl : j < D.B.length := by omega
    refine (dread_c (h.fresh hF1) j).use ?_
    rintro _ w3 ⟨v, rfl, hN⟩
    have hgd : D.B.getD j [] = D.B[j] := by rw [List.getD_eq_getElem?_getD, List.getElem?_eq_getElem hjl]; rfl
    have hbl := h.all _ (List.getElem_mem hjl)
    have htk : (D.B.drop 2).take (j + 1 - 2) = (D.B.drop 2).take (j - 2) ++ [D.B[j]] := by
      rw [show j + 1 - 2 = (j - 2) + 1 by omega, List.take_succ_eq_append_getElem (by rw [List.length_drop]; omega), List.getElem_drop]
      congr 3
      omega
    have hmx : maxL ((D.B.drop 2).take (j + 1 - 2)) = max l (lifeOf D.B[j]) := by
      rw [htk, hl]; unfold maxL; rw [List.foldl_append]; rfl
    rw [hgd] at hN
    generalize D.B[j] = b at *
    refine ext0 (ext1 ?_)
    refine (four_c hN.own.sl (by omega) hbl.2).use ?_
    rintro _ w4 ⟨rfl, hF4⟩
    have hF14 := (hF1.t hN.fr).t hF4
    refine gtr ⟨fun life' w' => ∃ l', life' = .int .u32 (l' : Nat) ∧ l' = max l (lifeOf b) ∧ l' < 4294967296 ∧ Fr [] w w', ?_, if_p (fun hg => ?_) (fun hg => ?_)⟩
    · rintro _ w5 ⟨l', rfl, he, hl', hF5⟩
      exact add64 (by omega) ⟨m - 1, by omega, j + 1, l', by omega, by omega, by congr 1, rfl, by rw [hmx, he], hl', hF5⟩
    · have hs4 := hN.own.sl.fr hF4 (fun i _ => by simp)
      refine blo (l := 4) hs4 hN.own.cap (by omega) ?_
      intro x hx _ _
      refine (four_c hx (by rw [List.length_drop]; omega) (fun c hc => hbl.2 c (List.mem_of_mem_drop hc))).use ?_
      rintro _ w5 ⟨rfl, hF5⟩
      have hlf : lifeOf b = four (b.drop 4) := by unfold lifeOf bLife; rw [if_pos (by unfold bGen; omega)]
      have hf := St.four_lt (l := b.drop 4) (fun c hc => hbl.2 c (List.mem_of_mem_drop hc))
      refine max2 ⟨max l (lifeOf b), ?_, rfl, by rw [hlf]; omega, hF14.t hF5⟩
      rw [hlf]
      congr 1
      split <;> omega
    · have hlf : lifeOf b = 0 := by unfold lifeOf; rw [if_neg (by unfold bGen; omega)]
      exact ⟨l, rfl, by rw [hlf]; omega, hlt, hF14⟩
  · refine addw ⟨?_, hF1⟩
    have e : (D.B.drop 2).take (j - 2) = D.B.drop 2 := List.take_of_length_le (by rw [List.length_drop]; omega)
    rw [IntKind.wrap_u32]
    unfold eldest
    rw [← e, ← hl]
    congr 1
theorem ne_str {P : Program} {S : World → Prop} {t : TypeId} {cx cy : Bool} {a b : ByteArray} {k : Value → Prop} (h : k (.bool (decide (a ≠ b)))) : Bin P S .neq t cx cy (.string a) (.string b) k := by
  refine ⟨_, fun w hw => ?_, h⟩
  have e : (a.toList == b.toList) = decide (a = b) := by
    by_cases h : a = b
    · subst h; simp
    · have : a.toList ≠ b.toList := fun e => h (by
        rw [ByteArray.toList_eq, ByteArray.toList_eq] at e
        cases a with | mk x => cases b with | mk y => exact congrArg ByteArray.mk (Array.ext' e))
      simp [h, this]
  have e2 : (a.toList != b.toList) = decide (a ≠ b) := by rw [bne, e]; by_cases h : a = b <;> simp [h]
  simp [binSem, eqGuard, binOp, Op.stringOp, e, e2]
theorem root_c {w : World} {pd bb : Nat} {lv : Value} {D : Dsk} (h : Dk w pd bb lv D) : CallF Try.prog 66 #[ptr pd] w fun r w' => r = .tuple #[.int .u32 (rootF D.B).1, .int .i64 (rootF D.B).2.1, .bool (rootF D.B).2.2] ∧ (rootF D.B).1 < 4294967296 ∧ (rootF D.B).2.1 < 4294967296 ∧ Fr [] w w' := by
  refine C_store_root_link ?_
  unfold C_store_root
  refine ⟨fun m g s wh n w' => ∃ (j : Nat) (r : Nat × Nat × Bool), j + m = 2 ∧ n = .int .i64 j ∧ g = .int .u32 r.1 ∧ s = .int .i64 r.2.1 ∧ wh = .bool r.2.2 ∧ (j = 0 → r = (1, 0, false)) ∧ (j = 1 → r = cand 0 D.B[0]? (1, 0, false)) ∧ (j = 2 → r = rootF D.B) ∧ r.1 < 4294967296 ∧ r.2.1 < 4294967296 ∧ Fr [] w w', 2,
    ⟨0, (1, 0, false), by omega, rfl, rfl, rfl, rfl, fun _ => rfl, fun h => by omega, fun h => by omega, by simp, by simp, Fr.refl _ _⟩, ?_⟩
  rintro m _ _ _ _ w1 ⟨j, r, hj, rfl, rfl, rfl, rfl, h0, h1, h2, hg, hs, hF1⟩
  refine lss (if_p (fun hlt => ?_) (fun hge => ?_))
  · have hj2 : j = 0 ∨ j = 1 := by omega
    -- the next
    have nxt : ∀ (r' : Nat × Nat × Bool) (w' : World), r' = cand j D.B[j]? r → r'.1 < 4294967296 → r'.2.1 < 4294967296 → Fr [] w w' → ∃ (j' : Nat) (r2 : Nat × Nat × Bool), j' + (m - 1) = 2 ∧ Value.int .i64 ((j : Int) + 1) = .int .i64 j' ∧ Value.int .u32 r'.1 = .int .u32 r2.1 ∧ Value.int .i64 r'.2.1 = .int .i64 r2.2.1 ∧ Value.bool r'.2.2 = .bool r2.2.2 ∧ (j' = 0 → r2 = (1, 0, false)) ∧ (j' = 1 → r2 = cand 0 D.B[0]? (1, 0, false)) ∧ (j' = 2 → r2 = rootF D.B) ∧ r2.1 < 4294967296 ∧ r2.2.1 < 4294967296 ∧ Fr [] w w' := by
      intro r' w' hr' q1 q2 q3
      refine ⟨j + 1, r', by omega, by congr 1, rfl, rfl, rfl, fun h => by omega, fun h => ?_, fun h => ?_, q1, q2, q3⟩
      · obtain rfl : j = 0 := by omega
        rw [hr', h0 rfl]
      · obtain rfl : j = 1 := by omega
        rw [hr', h1 rfl]; rfl
    refine ⟨fun g s wh w' => ∃ r' : Nat × Nat × Bool, g = .int .u32 r'.1 ∧ s = .int .i64 r'.2.1 ∧ wh = .bool r'.2.2 ∧ r' = cand j D.B[j]? r ∧ r'.1 < 4294967296 ∧ r'.2.1 < 4294967296 ∧ Fr [] w w', ?_, ?_⟩
    · rintro _ _ _ w2 ⟨r', rfl, rfl, rfl, he, q1, q2, q3⟩
      exact add64 (by omega) ⟨m - 1, by omega, nxt r' w2 he q1 q2 q3⟩
    refine (dread_c (h.fresh hF1) j).use ?_
    rintro _ w2 ⟨v, rfl, hN⟩
    refine ext0 (ext1 (neq ?_))
    have hF2 := hF1.t hN.fr
    by_cases hjl : j < D.B.length
    case neg =>
      have e : D.B[j]? = none := List.getElem?_eq_none (by omega)
      rw [if_neg hjl]
      refine gdF rfl (gdF rfl (gF rfl (gdF rfl (pick_t rfl (if_t rfl ⟨r, rfl, rfl, rfl, by rw [e]; rfl, hg, hs, hF2⟩)))))
    have e : D.B[j]? = some D.B[j] := List.getElem?_eq_getElem hjl
    have hgd : D.B.getD j [] = D.B[j] := by rw [List.getD_eq_getElem?_getD, e]; rfl
    have hbl := h.all _ (List.getElem_mem hjl)
    rw [hgd] at hN
    rw [if_pos hjl, e]
    generalize D.B[j] = b at *
    have htl : (b.take 8).length = 8 := by rw [List.length_take]; omega
    refine gdT rfl rfl ?_
    have hsl := hN.own.sl
    obtain ⟨x8, hx8, hsx⟩ : ∃ x8, SlcS 1 v none (some (.int .i64 8)) none (fun u => u = x8) ∧ Sl w2 1 x8 (b.take 8).length (bytes (b.take 8)) := by
      have := bhi (m := 8) (κ := .i64) (k := fun u => Sl w2 1 u (b.take 8).length (bytes (b.take 8))) hsl hN.own.cap (by omega) (fun v' q1 _ _ => q1)
      obtain ⟨A, c, rfl, hh⟩ := id hsl
      unfold SlcS bnds at this ⊢
      exact ⟨_, ⟨this.1, this.2.1, this.2.2.1, rfl⟩, this.2.2.2⟩
    refine gdT rfl hx8 (gT rfl ?_)
    refine do_bytes_string Try.underlying24 Try.underlying5 Try.underlying9 hsx (fun c hc => hbl.2 c (List.mem_of_mem_take hc)) ?_
    have hmag : (⟨#[102, 117, 114, 108, 111, 110, 103, 49]⟩ : ByteArray) = strOf magicN := by decide
    refine gdT rfl (ne_str rfl) (pick_f rfl ?_)
    rw [hmag]
    have hmi : strOf (b.take 8) = strOf magicN ↔ b.take 8 = magicN := strOf_inj (fun c hc => hbl.2 c (List.mem_of_mem_take hc)) (by decide)
    refine if_p (fun hne => ?_) (fun heq => ?_)
    · refine ⟨r, rfl, rfl, rfl, ?_, hg, hs, hF2⟩
      simp only [cand]
      rw [if_neg (fun hc => hne (hmi.2 hc.1))]
    have hm : b.take 8 = magicN := by
      by_cases q : strOf (b.take 8) = strOf magicN
      · exact hmi.1 q
      · exact absurd q heq
    refine blo (l := 8) hsl hN.own.cap (by omega) ?_
    intro x9 hx9 _ _
    refine (four_c hx9 (by rw [List.length_drop]; omega) (fun c hc => hbl.2 c (List.mem_of_mem_drop hc))).use ?_
    rintro _ w3 ⟨rfl, hF3⟩
    have hf8 := St.four_lt (l := b.drop 8) (fun c hc => hbl.2 c (List.mem_of_mem_drop hc))
    have hf12 := St.four_lt (l := b.drop 12) (fun c hc => hbl.2 c (List.mem_of_mem_drop hc))
    have hF03 := hF2.t hF3
    refine gtr ?_
    have J : ∀ {p : Prop}, (p → p) := fun h => h
    have fin : ∀ (q : Bool), (q = true ↔ (r.1 < four (b.drop 8) ∧ four (b.drop 8) % 2 = j)) →
       (∃ J_38 : Value → Value → Value → World → Prop,
       (∀ gen_2_39, ∀ size_3_40, ∀ whole_4_41, ∀ w_42, J_38 gen_2_39 size_3_40 whole_4_41 w_42 → (
        ∃ r' : Nat × Nat × Bool, gen_2_39 = .int .u32 r'.1 ∧ size_3_40 = .int .i64 r'.2.1 ∧ whole_4_41 = .bool r'.2.2 ∧ r' = cand j (some b) r ∧ r'.1 < 4294967296 ∧ r'.2.1 < 4294967296 ∧ Fr [] w w_42)) ∧
       If (.bool q) (
        SlcS 1 v (some (.int .i64 12)) none none fun t41_43 =>
        CallF Try.prog 68 #[t41_43] w3 fun t42_44 w_45 =>
        ConvI .i64 t42_44 fun t43_46 =>
        J_38 (.int .u32 (four (b.drop 8) : Nat)) t43_46 (.bool true) w_45) (
        J_38 (.int .u32 r.1) (.int .i64 r.2.1) (.bool r.2.2) w3)) := by
      intro q hq
      refine ⟨_, fun _ _ _ _ h => h, if_b (fun ht => ?_) (fun hf => ?_)⟩
      · obtain ⟨q1, q2⟩ := hq.1 ht
        refine blo (l := 12) (hsl.fr hF3 (fun i _ => by simp)) hN.own.cap (by omega) ?_
        intro x10 hx10 _ _
        refine (four_c hx10 (by rw [List.length_drop]; omega) (fun c hc => hbl.2 c (List.mem_of_mem_drop hc))).use ?_
        rintro _ w4 ⟨rfl, hF4⟩
        refine conv_i64 (by omega) ⟨(four (b.drop 8), four (b.drop 12), true), rfl, rfl, rfl, ?_, hf8, hf12, hF03.t hF4⟩
        simp only [cand]
        rw [if_pos ⟨hm, q1, q2⟩]
      · refine ⟨r, rfl, rfl, rfl, ?_, hg, hs, hF03⟩
        simp only [cand]
        rw [if_neg (fun hc => by have := hq.2 ⟨hc.2.1, hc.2.2⟩; rw [hf] at this; cases this)]
    by_cases hgt : (r.1 : Int) < (four (b.drop 8) : Int)
    · refine gdT (by simp [isB, hgt]) rfl (gdT (by simp [isB, hgt]) (rem (by omega) rfl) (gdT (by simp [isB, hgt]) (conv_i64 ?_ rfl) (gdT (by simp [isB, hgt]) rfl (gdT (by simp [isB, hgt]) (eql rfl) (pick_t (by simp [hgt]) ?_)))))
      · have e2 : ((four (b.drop 8) : Int).tmod 2) = ((four (b.drop 8) % 2 : Nat) : Int) := rfl
        rw [e2]; omega
      · refine fin _ ?_
        have e2 : ((four (b.drop 8) : Int).tmod 2) = ((four (b.drop 8) % 2 : Nat) : Int) := rfl
        rw [e2, decide_eq_true_eq]
        omega
    · refine gdF (by simp [isB, hgt]) (gdF (by simp [isB, hgt]) (gdF (by simp [isB, hgt]) (gdF (by simp [isB, hgt]) (gdF (by simp [isB, hgt]) (pick_f (by simp [hgt]) ?_)))))
      refine fin false ?_
      constructor
      · intro h; cases h
      · rintro ⟨q1, _⟩; omega
  · have hj2 : j = 2 := by omega
    rw [h2 hj2] at *
    exact ⟨rfl, hg, hs, hF1⟩
end Go.Proofs.Ytmlaconjeplhpaa

set_option linter.unusedVariables false
set_option linter.unusedSimpArgs false
set_option maxRecDepth 20000
namespace Go.Proofs.Ytmlaconjeplhpaa
open Go Go.Vc
open St (Dsk All64 Blk pad four put4 halfN base bGen bLife bUsed bDat hb walk)

/-- A list that is gathered by append in blocks from B on, its things too. -/
def Ga {α : Type} (S : Shape α) (T : TypeId) (B : Nat) (w : World) (v : Value) (l : List α) : Prop :=
  ∃ cells G, Own w T S.size v l.length cells ∧ S.rows w l cells G ∧ (∀ i ∈ G, B ≤ i) ∧ (∀ i ∈ fp v, B ≤ i) ∧ (∀ i ∈ fp v, i ∉ G)
section
variable {α : Type} {S : Shape α} {T : TypeId} {B : Nat} {w : World} {v : Value} {l : List α}
theorem Ga.nil (S : Shape α) (T : TypeId) (B : Nat) (w : World) : Ga S T B w (.slice none 0 0) [] := ⟨[], [], Own.nil _ _ _, ⟨rfl, rfl⟩, by simp, by simp [fp_nil], by simp [fp_nil]⟩
theorem Ga.fr {w' : World} {X : List Nat} (h : Ga S T B w v l) (f : Fr X w w') (hx : ∀ i ∈ X, i < B) : Ga S T B w' v l := by
  obtain ⟨cells, G, h1, h2, h3, h4, h5⟩ := h
  exact ⟨cells, G, h1.fr f (fun i hi hm => by have := h4 i hi; have := hx i hm; omega), rows_fr S f h2 (fun i hi hm => by have := h3 i hi; have := hx i hm; omega), h3, h4, h5⟩
theorem Ga.lt (h : Ga S T B w v l) : ∀ i ∈ fp v, i < w.heap.size := by obtain ⟨_, _, h1, _⟩ := h; exact h1.lt
theorem Ga.low (h : Ga S T B w v l) : ∀ i ∈ fp v, B ≤ i := by obtain ⟨_, _, _, _, _, h1, _⟩ := h; exact h1
theorem Ga.one (h : Ga S T B w v l) : v.oneCell' = true := by obtain ⟨_, _, h1, _⟩ := h; obtain ⟨A, c, rfl⟩ := h1.len; rfl
theorem Ga.slice (h : Ga S T B w v l) : ∃ A c, v = .slice A l.length c := by obtain ⟨_, _, h1, _⟩ := h; exact h1.len
theorem Ga.push {LT : TypeId} {z u : Value} {bytes : Nat} {a : α} {cs : List Value} {F : List Nat} {k : Value → World → Prop} (g : Ga S T B w v l) (hS0 : 0 < S.size) (hS1 : S.size ≤ 1000) (hb1 : bytes ≤ 1000) (hl : l.length ≤ 100000000) (hB : B ≤ w.heap.size)
    (ht : Try.prog.underlying LT = some (.slice T)) (hinf : (Try.prog.info? T).map (fun i => (i.zero, i.size, i.bytes)) = some (some z, S.size, bytes)) (hz : z.cells.size = S.size)
    (ha : S.rd w cs a F) (hF : ∀ i ∈ F, B ≤ i ∧ i ∉ fp v) (hu : u.cells.toList = cs) (hk : ∀ v' w', Ga S T B w' v' (l ++ [a]) → Fr (fp v) w w' → k v' w') :
    Do Try.prog (Instr.buildSlice LT 1 #[(0, u)]) w fun t13 w11 => Do Try.prog (Builtin.append_ #[LT, LT] LT #[v, t13]) w11 k := by
  obtain ⟨cells, G, h1, h2, h3, h4, h5⟩ := g
  refine lit1 ht hinf hS1 hu (S.len ha) ?_
  intro b wb hb hBk hfb hzb
  refine do_append ht hinf hz hS0 (h1.fr hfb (fun i _ => by simp)) (Bk.slN hBk (by rw [S.len ha]; omega) 1) (S.one ha) ?_ (by omega) ?_
  · have : (l.length + 1) * bytes ≤ 100000001 * 1000 := Nat.mul_le_mul (by omega) hb1
    omega
  intro v' wc ho hfc hsub
  have hGlt := rows_lt S h2
  have hFlt := S.lt ha
  have fc : Fr (fp v) w wc := (hfb.mono (fun i hi => by simp at hi)).t hfc
  have hGv : ∀ i ∈ G, i ∉ fp v := fun i hi hm => h5 i hm hi
  refine hk v' wc ⟨cells ++ cs, G ++ F, by rw [List.length_append]; exact ho, rows_snoc S (S.fr ha fc (fun i hi => (hF i hi).2)) (rows_fr S fc h2 hGv), ?_, ?_, ?_⟩ fc
  · intro i hi
    rcases List.mem_append.1 hi with h | h
    · exact h3 i h
    · exact (hF i h).1
  · intro i hi
    rcases hsub i hi with h | h
    · exact h4 i h
    · omega
  · intro i hi hm
    rcases hsub i hi with h | h
    · rcases List.mem_append.1 hm with h' | h'
      · exact h5 i h h'
      · exact (hF i h').2 h
    · rcases List.mem_append.1 hm with h' | h'
      · have := hGlt i h'; omega
      · have := hFlt i h'; omega
theorem Ga.rd (h : Ga S T B w v l) (hS : 0 < S.size) : ∃ F, (S.list hS).rd w [v] l F ∧ ∀ i ∈ F, B ≤ i := by
  obtain ⟨cells, G, h1, h2, h3, h4, h5⟩ := h
  refine ⟨_, ⟨v, cells, G, rfl, h1.cap, h1.sl, h2, rfl⟩, fun i hi => ?_⟩
  rcases List.mem_append.1 hi with h | h
  · split at h
    · simp at h
    · exact h4 i h
  · exact h3 i h
end

/-- Ga.push, the condition S kept on the way. -/
theorem Ga.push_S {α : Type} {S : Shape α} {T : TypeId} {B : Nat} {w : World} {v : Value} {l : List α} {LT : TypeId} {z u : Value} {bytes : Nat} {a : α} {cs : List Value} {F : List Nat} {S1 S2 : World → Prop} {k : Value → World → Prop} (g : Ga S T B w v l) (hS0 : 0 < S.size) (hS1 : S.size ≤ 1000) (hb1 : bytes ≤ 1000) (hl : l.length ≤ 100000000) (hB : B ≤ w.heap.size)
    (ht : Try.prog.underlying LT = some (.slice T)) (hinf : (Try.prog.info? T).map (fun i => (i.zero, i.size, i.bytes)) = some (some z, S.size, bytes)) (hz : z.cells.size = S.size)
    (ha : S.rd w cs a F) (hF : ∀ i ∈ F, B ≤ i ∧ i ∉ fp v) (hu : u.cells.toList = cs) (hc : ∀ w', Fr (fp v) w w' → S1 w' ∧ S2 w') (hk : ∀ v' w', Ga S T B w' v' (l ++ [a]) → Fr (fp v) w w' → k v' w') :
    Do Try.prog (Instr.buildSlice LT 1 #[(0, u)]) w fun t13 w11 => S1 w11 ∧ Do Try.prog (Builtin.append_ #[LT, LT] LT #[v, t13]) w11 fun v' w' => S2 w' ∧ k v' w' := by
  obtain ⟨cells, G, h1, h2, h3, h4, h5⟩ := g
  refine lit1 ht hinf hS1 hu (S.len ha) ?_
  intro b wb hb hBk hfb hzb
  refine ⟨(hc wb (hfb.mono (fun i hi => by simp at hi))).1, ?_⟩
  refine do_append ht hinf hz hS0 (h1.fr hfb (fun i _ => by simp)) (Bk.slN hBk (by rw [S.len ha]; omega) 1) (S.one ha) ?_ (by omega) ?_
  · have : (l.length + 1) * bytes ≤ 100000001 * 1000 := Nat.mul_le_mul (by omega) hb1
    omega
  intro v' wc ho hfc hsub
  have hGlt := rows_lt S h2
  have hFlt := S.lt ha
  have fc : Fr (fp v) w wc := (hfb.mono (fun i hi => by simp at hi)).t hfc
  have hGv : ∀ i ∈ G, i ∉ fp v := fun i hi hm => h5 i hm hi
  refine ⟨(hc wc fc).2, hk v' wc ⟨cells ++ cs, G ++ F, by rw [List.length_append]; exact ho, rows_snoc S (S.fr ha fc (fun i hi => (hF i hi).2)) (rows_fr S fc h2 hGv), ?_, ?_, ?_⟩ fc⟩
  · intro i hi
    rcases List.mem_append.1 hi with h | h
    · exact h3 i h
    · exact (hF i h).1
  · intro i hi
    rcases hsub i hi with h | h
    · exact h4 i h
    · omega
  · intro i hi hm
    rcases hsub i hi with h | h
    · rcases List.mem_append.1 hm with h' | h'
      · exact h5 i h h'
      · exact (hF i h').2 h
    · rcases List.mem_append.1 hm with h' | h'
      · have := hGlt i h'; omega
      · have := hFlt i h'; omega

theorem sblocks_c {Y : World → List Nat → Prop} {y : Value} {w0 w : World} {px ps pd bb : Nat} {lv : Value} {D : Dsk} {gen : Nat} {rest : List Value} (h2 : 2 ≤ D.B.length ∨ halfN D.B = 0)
    (hd : ∀ w d, Y w d → Dk w pd bb lv D ∧ Bk w ps 124 (ptr pd :: .int .u32 gen :: rest) ∧ Bk w px 31 [ptr ps] ∧ w0.heap.size ≤ w.heap.size) (hf : ∀ w w' d, Y w d → Fr [] w w' → Y w' d)
    (hy : ∀ (w : World) (d : List Nat) (x : Value) (c : List Nat) (i : Nat), Y w d → Sl w 1 x c.length (bytes c) → (∀ i ∈ fp x, w0.heap.size ≤ i) → d.length + c.length ≤ halfN D.B * 55 → CallV Try.prog y #[.int .i64 i, x] w fun r w' => r = .bool true ∧ Y w' (d ++ c))
    (h : Y w []) : CallF Try.prog 101 #[y, ptr px] w fun r w' => r = .tuple #[] ∧ Y w' (walk (hb D.B gen) gen (halfN D.B) 0 0) := by
  refine C_store_Store_blocks_1_link ?_
  unfold C_store_Store_blocks_1
  obtain ⟨d0, s0, x0, _⟩ := hd _ _ h
  refine ldC_bk x0 rfl ((half_c d0 s0).use ?_)
  rintro _ w1 ⟨rfl, rfl⟩
  have hlen := d0.len
  have hall := d0.all
  have hh : halfN D.B ≤ 32768 := by unfold halfN; omega
  refine ⟨fun m last i w' => ∃ (j l : Nat) (d : List Nat), j + m = halfN D.B ∧ i = .int .i64 j ∧ last = .int .u32 l ∧ Y w' d ∧ d.length ≤ j * 55 ∧ walk (hb D.B gen) gen (halfN D.B) 0 0 = d ++ walk (hb D.B gen) gen m j l, halfN D.B, ⟨0, 0, [], by omega, rfl, rfl, h, by simp, rfl⟩, ?_⟩
  rintro m _ _ w2 ⟨j, l, d, hj, rfl, rfl, hY, hdl, hw⟩
  refine lss (if_p (fun hlt => ?_) (fun hge => ?_))
  case refine_2 =>
    have : m = 0 := by omega
    subst this
    rw [St.walk, List.append_nil] at hw
    rw [hw]
    exact ⟨rfl, hY⟩
  obtain ⟨m', rfl⟩ : ∃ m', m = m' + 1 := ⟨m - 1, by omega⟩
  have hjh : j < halfN D.B := by omega
  have hroom := St.half_room (gen := gen) (h2.resolve_right (by omega)) hjh
  rw [St.walk] at hw
  have hY' := hf _ _ _ hY (Fr.drew [] w2)
  obtain ⟨d2, s2, x2, z2⟩ := hd _ _ hY'
  refine ⟨fun w' => Bk w' ps 124 (ptr pd :: .int .u32 gen :: rest) ∧ Bk w' px 31 [ptr ps], ⟨s2, x2⟩, ?_⟩
  refine ldC_S (fun w' h => h.2) rfl (nilC (fad (ldC_S (fun w' h => h.1) rfl (ldC_S (fun w' h => h.2) rfl ?_))))
  refine (place_c d2 s2 j (by omega)).use ?_
  rintro _ w3 ⟨rfl, hF3⟩
  have hY3 := hf _ _ _ hY' hF3
  obtain ⟨d3, s3, x3, z3⟩ := hd _ _ hY3
  refine ⟨⟨s3, x3⟩, ?_⟩
  refine (dread_c d3 (base (halfN D.B) gen + j)).use ?_
  rintro _ w4 ⟨v, rfl, hN⟩
  have hY4 := hf _ _ _ hY3 hN.fr
  obtain ⟨d4, s4, x4, z4⟩ := hd _ _ hY4
  refine ⟨⟨s4, x4⟩, ext0 (ext1 ?_)⟩
  have hgd : D.B.getD (base (halfN D.B) gen + j) [] = hb D.B gen j := by
    unfold hb
    rw [List.getD_eq_getElem?_getD, List.getD_eq_getElem?_getD, List.getElem?_eq_getElem hroom]; rfl
  obtain ⟨hbl, hbb⟩ := St.hb_64 hall gen j
  have hul : bUsed (hb D.B gen j) < 256 := St.getD_lt hbb 8
  have hfl := St.four_lt (l := (hb D.B gen j).drop 4) (fun c hc => hbb c (List.mem_of_mem_drop hc))
  have e8 : (bytes (hb D.B gen j))[8]? = some (.int .u8 (bUsed (hb D.B gen j) : Int)) := by
    rw [bytes_get (by omega)]
    congr 2
    unfold bUsed
    rw [List.getD_eq_getElem?_getD, List.getElem?_eq_getElem (by omega)]; rfl
  rw [hgd] at hN
  have edat : ((hb D.B gen j).take (9 + bUsed (hb D.B gen j))).drop 9 = bDat (hb D.B gen j) := by
    unfold bDat
    rw [List.drop_take, show 9 + bUsed (hb D.B gen j) - 9 = bUsed (hb D.B gen j) by omega]
  have hdl2 : (bDat (hb D.B gen j)).length ≤ bUsed (hb D.B gen j) := by unfold bDat; rw [List.length_take]; omega
  have eg : bGen (hb D.B gen j) = four (hb D.B gen j) := rfl
  have el : bLife (hb D.B gen j) = four ((hb D.B gen j).drop 4) := rfl
  have hxs : ∀ i ∈ fp v, w0.heap.size ≤ i := fun i hi => by have := hN.new i hi; omega
  generalize hb D.B gen j = b at *
  rw [hbl] at hN
  have hsl : Sl (World.drew w4) 1 v b.length (bytes b) := by rw [hbl]; exact hN.own.sl.fr (Fr.drew [] w4) (by simp)
  have hS : ∀ {w'}, Fr [] (World.drew w4) w' → Sl w' 1 v b.length (bytes b) := fun f => hsl.fr f (fun i _ => by simp)
  refine ⟨fun w' => Sl w' 1 v b.length (bytes b), hsl, ?_⟩
  refine blo (l := 4) hsl hN.own.cap (by omega) ?_
  intro x5 hx5 _ _
  refine ix1S (i := 8) (fun w' h => h) hsl (by omega) e8 (conv_i64 (by omega) ?_)
  refine (four_c hsl (by omega) hbb).use ?_
  rintro _ w5 ⟨rfl, hF5⟩
  refine ⟨hS hF5, ?_⟩
  refine (four_c (hx5.fr hF5 (fun i _ => by simp)) (by rw [List.length_drop]; omega) (fun c hc => hbb c (List.mem_of_mem_drop hc))).use ?_
  rintro _ w6 ⟨rfl, hF6⟩
  have g6 : Fr [] w4 w6 := (Fr.drew [] w4).t (hF5.t hF6)
  have hY6 := hf _ _ _ hY4 g6
  obtain ⟨d6, s6, x6, z6⟩ := hd _ _ hY6
  refine ⟨hS (hF5.t hF6), ?_⟩
  refine ldC_bk x6 rfl (nilC (fad (ldC_bk s6 rfl (neq ?_))))
  rw [← eg, ← el] at *
  have stop : (bGen b ≠ gen ∨ bLife b < l ∨ 55 < bUsed b) → (Value.tuple #[] = .tuple #[] ∧ Y w6 (walk (hb D.B gen) gen (halfN D.B) 0 0)) := fun hc => by
    rw [if_pos hc, List.append_nil] at hw
    rw [hw]
    exact ⟨rfl, hY6⟩
  by_cases h1 : bGen b ≠ gen
  · refine gdF (by simp [isB]; omega) (gdF (by simp [isB]; omega) (gdF (by simp [isB]; omega) (pick_t (by simp; omega) (gdF rfl (gdF rfl (pick_t rfl (if_t rfl (stop (.inl h1)))))))))
  refine gdT (by simp [isB]; omega) rfl (gdT (by simp [isB]; omega) rfl (gdT (by simp [isB]; omega) (lss rfl) (pick_f (by simp; omega) ?_)))
  by_cases h3 : bLife b < l
  · refine gdF (by simp [isB]; omega) (gdF (by simp [isB]; omega) (pick_t (by simp; omega) (if_t rfl (stop (.inr (.inl h3))))))
  refine gdT (by simp [isB]; omega) rfl (gdT (by simp [isB]; omega) (gtr rfl) (pick_f (by simp; omega) ?_))
  refine if_p (fun h4 => stop (.inr (.inr (by omega)))) (fun h4 => ?_)
  have hnc : ¬ (bGen b ≠ gen ∨ bLife b < l ∨ 55 < bUsed b) := by omega
  rw [if_neg hnc] at hw
  refine add64 (by omega) ?_
  have e9 : (9 : Int) + (bUsed b : Int) = ((9 + bUsed b : Nat) : Int) := by omega
  rw [e9]
  have hsl6 := hS (hF5.t hF6)
  refine blh (l := 9) (m := 9 + bUsed b) hsl6 hN.own.cap (by omega) (by omega) ?_
  intro x7 hx7 _ hf7
  rw [edat] at hx7
  refine CallV.mono (hy w6 d x7 (bDat b) j hY6 hx7 (fun i hi => hxs i (hf7 i hi)) (by
    have : (j + 1) * 55 ≤ halfN D.B * 55 := Nat.mul_le_mul_right _ (by omega)
    omega)) ?_
  rintro _ w7 ⟨rfl, hY7⟩
  refine notB (gdT rfl rfl (gdT rfl (lss rfl) (pick_f rfl ?_)))
  refine if_p (fun h5 => ?_) (fun h5 => ?_)
  · rw [if_pos (by omega), List.append_nil] at hw
    rw [hw]
    exact ⟨rfl, hY7⟩
  · rw [if_neg (by omega), ← List.append_assoc] at hw
    refine add64 (by omega) ⟨m', by omega, j + 1, bLife b, d ++ bDat b, by omega, by congr 1, rfl, hY7, by rw [List.length_append]; omega, hw⟩
end Go.Proofs.Ytmlaconjeplhpaa

set_option linter.unusedVariables false
set_option linter.unusedSimpArgs false
set_option maxRecDepth 20000
namespace Go.Proofs.Ytmlaconjeplhpaa
open Go Go.Vc
open St (Dsk All64 Blk pad four put4 halfN base hb walk eldest rootF openF foundOf allF recs encAll oneRec)

theorem loopW_heap (w : World) (r : Go.Loop) : (loopW w r).heap = (w.heap.push (.deferred (some []))).push (LO r .ready none) := rfl
theorem loopW_at (w : World) (r : Go.Loop) : (loopW w r).heap[w.heap.size]? = some (.deferred (some [])) ∧ (loopW w r).heap[w.heap.size + 1]? = some (LO r .ready none) ∧ Fr [] w (loopW w r) ∧ (loopW w r).heap.size = w.heap.size + 2 := by
  have h : loopW w r = (w.alloc (.deferred (some []))).alloc (LO r .ready none) := rfl
  have h1 := alloc_size w (.deferred (some []))
  refine ⟨?_, ?_, ?_, ?_⟩
  · rw [h]; exact alloc_old _ (alloc_new w _)
  · rw [h, ← h1]; exact alloc_new _ _
  · rw [h]; exact (Fr.alloc [] w _).t (Fr.alloc [] _ _)
  · rw [h, alloc_size, h1]


/-- Bytes in a row of one's own. -/
def sOwn : Shape (List Nat) where
  size := 1
  rd w cs l F := ∃ v, cs = [v] ∧ Own w 5 1 v l.length (bytes l) ∧ F = fp v
  len := by rintro w cs l F ⟨v, rfl, _⟩; rfl
  one := by rintro w cs l F ⟨v, rfl, h, _⟩ u hu; obtain ⟨A, c, rfl⟩ := h.len; rw [List.mem_singleton.1 hu]; rfl
  fr := by rintro w w' cs l F X ⟨v, rfl, h, rfl⟩ f hx; exact ⟨v, rfl, h.fr f hx, rfl⟩
  lt := by rintro w cs l F ⟨v, rfl, h, rfl⟩; exact h.lt
theorem recs_step {l : List Nat} (h : oneRec l = true) : recs l = (l.drop 4).take (four l) :: recs (l.drop (4 + four l)) := by
  have ho := (St.oneRec_iff l).1 h
  unfold recs
  obtain ⟨n, hn⟩ : ∃ n, l.length = n + 1 := ⟨l.length - 1, by omega⟩
  rw [hn, St.parse, if_pos h]
  congr 1
  exact St.parse_more _ _ _ (by rw [List.length_drop]; omega) (Nat.le_refl _)
theorem recs_stop {l : List Nat} (h : oneRec l ≠ true) : recs l = [] := by
  unfold recs
  cases hn : l.length with
  | zero => rfl
  | succ n => rw [St.parse, if_neg h]
/-- In the midst of Open. -/
structure OZ (w0 : World) (pd bb ps pa pf b3 dl : Nat) (lv : Value) (D : Dsk) (gen life : Nat) (all : List Nat) (fs : List Value) (w : World) : Prop where
  fr : Fr [] w0 w
  dk : Dk w pd bb lv D
  st : Bk w ps 124 [ptr pd, .int .u32 gen, .int .u32 life, .slice none 0 0, .int .i64 0, .int .i64 0, .int .i64 0]
  av : ∃ av, Bk w pa 24 [av] ∧ Own w 5 1 av all.length (bytes all) ∧ ∀ i ∈ fp av, dl < i ∧ i < pf
  fpf : Bk w pf 33 fs
  fb3 : ∃ l, Bk w b3 33 l ∧ l.length = 3
  fdl : w.heap[dl]? = some (.deferred (some []))
  o0 : pd < w0.heap.size ∧ bb < w0.heap.size ∧ ∀ i ∈ fp lv, i < w0.heap.size
  o1 : w0.heap.size ≤ b3
  o2 : b3 < ps
  o3 : ps < pa
  o4 : pa < dl
  o5 : dl < pf
section
variable {w0 w w' : World} {pd bb ps pa pf b3 dl : Nat} {lv : Value} {D : Dsk} {gen life : Nat} {all : List Nat} {fs : List Value}
theorem OZ.step {X : List Nat} (z : OZ w0 pd bb ps pa pf b3 dl lv D gen life all fs w) (f : Fr X w w') (hx : ∀ i ∈ X, pf < i) : OZ w0 pd bb ps pa pf b3 dl lv D gen life all fs w' := by
  obtain ⟨av, h1, h2, h3⟩ := z.av
  obtain ⟨l, h4, h5⟩ := z.fb3
  obtain ⟨q1, q2, q3⟩ := z.o0
  have o1 := z.o1; have o2 := z.o2; have o3 := z.o3; have o4 := z.o4; have o5 := z.o5
  have no : ∀ i, i ≤ pf → i ∉ X := fun i hi hm => by have := hx i hm; omega
  exact ⟨z.fr.trans f (fun i hi => .inr (by have := hx i hi; omega)), z.dk.fr f (no _ (by omega)) (no _ (by omega)) (fun i hi => no _ (by have := q3 i hi; omega)), z.st.fr f (no _ (by omega)), ⟨av, h1.fr f (no _ (by omega)), h2.fr f (fun i hi => no _ (by have := h3 i hi; omega)), h3⟩, z.fpf.fr f (no _ (Nat.le_refl _)), ⟨l, h4.fr f (no _ (by omega)), h5⟩, f.get z.fdl (no _ (by omega)), z.o0, o1, o2, o3, o4, o5⟩
/-- What is found is set. -/
theorem OZ.setf {fs' : List Value} (z : OZ w0 pd bb ps pa pf b3 dl lv D gen life all fs w) (f : Fr [pf] w w') (h : Bk w' pf 33 fs') : OZ w0 pd bb ps pa pf b3 dl lv D gen life all fs' w' := by
  obtain ⟨av, h1, h2, h3⟩ := z.av
  obtain ⟨l, h4, h5⟩ := z.fb3
  obtain ⟨q1, q2, q3⟩ := z.o0
  have o1 := z.o1; have o2 := z.o2; have o3 := z.o3; have o4 := z.o4; have o5 := z.o5
  have no : ∀ i, i < pf → i ∉ [pf] := fun i hi => by simp; omega
  exact ⟨z.fr.trans f (fun i hi => .inr (by simp at hi; omega)), z.dk.fr f (no _ (by omega)) (no _ (by omega)) (fun i hi => no _ (by have := q3 i hi; omega)), z.st.fr f (no _ (by omega)), ⟨av, h1.fr f (no _ (by omega)), h2.fr f (fun i hi => no _ (by have := h3 i hi; omega)), h3⟩, h, ⟨l, h4.fr f (no _ (by omega)), h5⟩, f.get z.fdl (no _ (by omega)), z.o0, o1, o2, o3, o4, o5⟩
end
/-- What Open hands back. -/
def Opened (w : World) (pd bb : Nat) (B : List Blk) (r : Value) (w' : World) : Prop :=
  ∃ ps tv sv lv F2, r = .tuple #[ptr ps, .agg #[.bool (openF B).whole, sv, lv], .int .i64 0] ∧
    Sk w' ps pd bb (.slice none 0 0) tv ⟨B, []⟩ (openF B).gen (openF B).life (openF B).at' (openF B).list.length (openF B).list.length (openF B).tail ∧
    Own w' 5 1 sv (openF B).snap.length (bytes (openF B).snap) ∧ (sOwn.list (by decide)).rd w' [lv] (openF B).list F2 ∧ Fr [pd] w w' ∧
    w.heap.size ≤ ps ∧ (∀ i ∈ fp tv, w.heap.size ≤ i) ∧ (∀ i ∈ fp sv, w.heap.size ≤ i) ∧ (∀ i ∈ F2, w.heap.size ≤ i) ∧
    ps ∉ fp sv ∧ ps ∉ F2 ∧ (∀ i ∈ fp tv, i ∉ fp sv ∧ i ∉ F2) ∧ (∀ i ∈ F2, i ∉ fp sv)

theorem open_c {w : World} {pd bb : Nat} {lv : Value} {D : Dsk} (h : Dk w pd bb lv D) (h2 : 2 ≤ D.B.length ∨ halfN D.B = 0) : CallF Try.prog 18 #[ptr pd] w (Opened w pd bb D.B) := by
  refine C_store_Open_link ?_
  unfold C_store_Open
  have hlt := h.lt
  refine alloc_n (n := 3) (by kernel_rfl) ?_
  intro b3 w1 l3 hl3 hb3 hB3 hF1 hs1
  refine ptr_eql und26 (if_f rfl ?_)
  refine (eldest_c (h.fresh hF1)).use ?_
  rintro _ w2 ⟨rfl, hF2⟩
  refine ⟨[ptr pd, .int .u32 0, .int .u32 (eldest D.B : Nat), .slice none 0 0, .int .i64 0, .int .i64 0, .int .i64 0], by kernel_rfl, by kernel_rfl, ?_⟩
  refine box' (l := [ptr pd, .int .u32 0, .int .u32 (eldest D.B : Nat), .slice none 0 0, .int .i64 0, .int .i64 0, .int .i64 0]) rfl ?_
  intro ps w3 hps hBs hF3 hs3
  refine (root_c (((h.fresh hF1).fresh hF2).fresh hF3)).use ?_
  rintro _ w4 ⟨rfl, hg, hsz, hF4⟩
  refine ext0 (ext1 (ext2 ?_))
  refine nilC (fad (store' (hBs.fr hF4 (by simp)) (by kernel_rfl) (by simp) rfl ?_))
  intro w5 hB5 hF5 hs5
  have z2 := hF2.size
  have z4 := hF4.size
  have hF05 : Fr [] w w5 := (((hF1.t hF2).t hF3).t hF4).trans hF5 (fun i hi => .inr (by simp at hi; omega))
  refine alloc' (l := [.slice none 0 0]) (by kernel_rfl) ?_
  intro pa w6 hpa hBa hF6 hs6
  refine C_store_Store_blocks_link ?_
  unfold C_store_Store_blocks
  refine box' (l := [ptr ps]) rfl ?_
  intro px w7 hpx hBx hF7 hs7
  intro r hyy
  refine callE_of C_store_Store_blocks_1_ent ?_
  obtain ⟨hl1, hl2, hFl, hsl⟩ := loopW_at w7 r
  obtain ⟨dl, hdl⟩ : ∃ dl, w7.heap.size = dl := ⟨_, rfl⟩
  rw [hdl] at hl1 hl2 hsl hyy ⊢
  obtain ⟨q1, q2, q3⟩ := hlt
  have hB5' : Bk w5 ps 124 [ptr pd, .int .u32 (rootF D.B).1, .int .u32 (eldest D.B : Nat), .slice none 0 0, .int .i64 0, .int .i64 0, .int .i64 0] := by simpa using hB5
  have hF57 : Fr [] w5 (loopW w7 r) := (hF6.t hF7).t hFl
  have hF15 : Fr [] w1 w5 := ((hF2.t hF3).t hF4).trans hF5 (fun i hi => .inr (by simp at hi; omega))
  have hlife : eldest D.B < 4294967296 := Nat.mod_lt _ (by omega)
  generalize hgen : (rootF D.B).1 = gen at *
  generalize hlf : eldest D.B = life at *
  have hstep : ∀ (Y : World → List Nat → Prop), Y = (fun w' d => Dk w' pd bb lv D ∧ Bk w' ps 124 [ptr pd, .int .u32 gen, .int .u32 life, .slice none 0 0, .int .i64 0, .int .i64 0, .int .i64 0] ∧ Bk w' px 31 [ptr ps] ∧ (∃ av, Bk w' pa 24 [av] ∧ Own w' 5 1 av d.length (bytes d) ∧ ∀ i ∈ fp av, dl + 1 < i) ∧
      w'.heap[dl + 1]? = some (LO r .ready none) ∧ w'.heap[dl]? = some (.deferred (some [])) ∧ Bk w' b3 33 l3 ∧ Fr [] w w' ∧ (loopW w7 r).heap.size ≤ w'.heap.size) →
      CallF Try.prog 101 #[yv (dl + 1), ptr px] (loopW w7 r) fun r w' => r = .tuple #[] ∧ Y w' (walk (hb D.B gen) gen (halfN D.B) 0 0) := by
    intro Y hYe
    refine sblocks_c (Y := Y) (w0 := loopW w7 r) (ps := ps) (pd := pd) (bb := bb) (lv := lv) (rest := [.int .u32 life, .slice none 0 0, .int .i64 0, .int .i64 0, .int .i64 0]) h2 ?_ ?_ ?_ ?_
    · subst hYe; rintro w' d ⟨k1, k2, k3, _, _, _, _, _, k9⟩
      exact ⟨k1, k2, k3, k9⟩
    · subst hYe; rintro w' w'' d ⟨k1, k2, k3, ⟨av, k4, k5, k6⟩, k7, k8, k9, k10, k11⟩ f
      exact ⟨k1.fresh f, k2.fr f (by simp), k3.fr f (by simp), ⟨av, k4.fr f (by simp), k5.fr f (fun i _ => by simp), k6⟩, f.get k7 (by simp), f.get k8 (by simp), k9.fr f (by simp), k10.t f, by have := f.size; omega⟩
    · subst hYe; rintro w' d x c i ⟨k1, k2, k3, ⟨av, k4, k5, k6⟩, k7, k8, k9, k10, k11⟩ hx hxn hroom
      refine hyy _ _ w' _ k7 ⟨k7, ?_⟩
      have f0 : Fr [dl + 1] w' (setO w' (dl + 1) (LO r .busy none)) := Fr.setO w' _ (.inl (by simp))
      have b0 : (setO w' (dl + 1) (LO r .busy none)).heap[dl + 1]? = some (LO r .busy none) := setO_same _ (heap_lt k7)
      have z0 := setO_size w' (dl + 1) (LO r .busy none)
      generalize setO w' (dl + 1) (LO r .busy none) = wa at *
      have hav : ∀ i ∈ fp av, i ∉ [dl + 1] := fun i hi => by have := k6 i hi; simp; omega
      refine ldC_bk (k4.fr f0 (by simp; omega)) rfl ?_
      have hlen := h.len
      have hh : halfN D.B ≤ 32768 := by unfold halfN; omega
      refine do_append Try.underlying24 infoB rfl (by omega) (k5.fr f0 hav) (hx.fr f0 (fun i hi => by have := hxn i hi; simp; omega)) (bytes_one _) (by omega) (by omega) ?_
      intro av' wb ho hfb hsub
      have no : ∀ i, i ≤ dl + 1 → i ∉ fp av := fun i hi hm => by have := k6 i hm; omega
      obtain ⟨A, cc, hav'⟩ := ho.len
      refine store' ((k4.fr f0 (by simp; omega)).fr hfb (no _ (by omega))) (by kernel_rfl) (by simp) (by rw [hav']; rfl) ?_
      intro wc hBc hfc hsc
      refine ⟨hfc.get (hfb.get b0 (no _ (Nat.le_refl _))) (by simp; omega), rfl, ?_⟩
      have zb := hfb.size
      have hav2 : ∀ i ∈ fp av', dl + 1 < i := fun i hi => (hsub i hi).elim (k6 i) (by omega)
      have f1 : Fr ((dl + 1) :: pa :: fp av) w' wc := ((f0.mono (fun i hi => by simp at hi; simp [hi])).trans hfb (fun i hi => .inl (by simp [hi]))).trans hfc (fun i hi => .inl (by simp at hi; simp [hi]))
      have f2 : Fr ((dl + 1) :: pa :: fp av) w' (setO wc (dl + 1) (LO r .ready none)) := f1.t (Fr.setO wc _ (.inl (by simp)))
      have no2 : ∀ i, i ≤ dl → i ≠ pa → i ∉ (dl + 1) :: pa :: fp av := fun i hi hne hm => by
        simp only [List.mem_cons] at hm
        rcases hm with hm | hm | hm
        · omega
        · exact hne hm
        · exact no i (by omega) hm
      have hlv : ∀ i ∈ fp lv, i ∉ (dl + 1) :: pa :: fp av := fun i hi => by have := q3 i hi; have := hF05.size; exact no2 i (by omega) (by omega)
      have z05 := hF05.size
      refine ⟨k1.fr f2 (no2 _ (by omega) (by omega)) (no2 _ (by omega) (by omega)) hlv, k2.fr f2 (no2 _ (by omega) (by omega)), k3.fr f2 (no2 _ (by omega) (by omega)), ⟨av', ?_, ?_, hav2⟩, setO_same _ (by rw [hsc]; have := heap_lt k7; omega), f2.get k8 (no2 _ (Nat.le_refl _) (by omega)), k9.fr f2 (no2 _ (by omega) (by omega)), k10.trans f2 (fun i hi => .inr ?_), by rw [setO_size]; omega⟩
      · exact (by simpa using hBc : Bk wc pa 24 [av']).setO _ (by omega)
      · rw [bytes_append, List.length_append]
        exact (ho.fr hfc (fun i hi => by have := hav2 i hi; simp; omega)).fr (Fr.setO (X := [dl + 1]) wc _ (.inl (by simp))) (fun i hi => by have := hav2 i hi; simp; omega)
      · simp only [List.mem_cons] at hi
        rcases hi with hi | hi | hi
        · omega
        · omega
        · have := k6 i hi; omega
    · subst hYe
      have hF0l := hF05.t hF57
      refine ⟨h.fresh hF0l, hB5'.fr hF57 (by simp), hBx.fr hFl (by simp), ⟨.slice none 0 0, (hBa.fr hF7 (by simp)).fr hFl (by simp), Own.nil _ _ _, by simp [fp_nil]⟩, hl2, hl1, (hB3.fr hF15 (by simp)).fr hF57 (by simp), hF0l, Nat.le_refl _⟩
  refine CallF.use (hstep _ rfl) ?_
  rintro _ w8 ⟨-, k1, k2, k3, ⟨av, k4, k5, k6⟩, k7, k8, k9, k10, k11⟩
  clear hstep hyy
  refine ⟨.ready, k7, (by intro e; cases e), ?_⟩
  have hall : walk (hb D.B gen) gen (halfN D.B) 0 0 = allF D.B := by unfold allF; rw [hgen]
  have hallb : ∀ x ∈ allF D.B, x < 256 := by
    rw [← hall]
    exact St.walk_lt (fun i => (St.hb_64 h.all gen i).2) _ _ _
  have halll : (allF D.B).length ≤ 1802240 := by
    have := St.walk_length (H := hb D.B gen) (gen := gen) (halfN D.B) 0 0
    rw [hall] at this
    have hlen := h.len
    have hh : halfN D.B ≤ 32768 := by unfold halfN; omega
    omega
  rw [hall] at k5
  refine ⟨[.bool (rootF D.B).2.2, .slice none 0 0, .slice none 0 0], by kernel_rfl, by kernel_rfl, ?_⟩
  have f8 : Fr [dl + 1] w8 (setO w8 (dl + 1) (LO r .exhausted none)) := Fr.setO w8 _ (.inl (by simp))
  have z8 := setO_size w8 (dl + 1) (LO r .exhausted none)
  generalize setO w8 (dl + 1) (LO r .exhausted none) = w9 at *
  refine alloc_n (n := 3) (by kernel_rfl) ?_
  intro pf w10 lf hlfl hpf hBf hF10 hs10
  refine store_all (vs := [.bool (rootF D.B).2.2, .slice none 0 0, .slice none 0 0]) hBf (by kernel_rfl) hlfl rfl (by omega) (by simp [Value.oneCell']) ?_
  intro w11 hB11 hF11 hs11
  have z05 := hF05.size
  have k5lt := k5.lt
  have z1 : OZ w pd bb ps pa pf b3 dl lv D gen life (allF D.B) [.bool (rootF D.B).2.2, .slice none 0 0, .slice none 0 0] w11 := by
    have f : Fr [dl + 1, pf] w8 w11 := ((f8.mono (fun i hi => by simp at hi; simp [hi])).t (hF10.mono (fun i hi => by simp at hi))).t (hF11.mono (fun i hi => by simp at hi; simp [hi]))
    have no : ∀ i, i ≤ dl → i ∉ [dl + 1, pf] := fun i hi => by simp; omega
    exact ⟨k10.trans f (fun i hi => .inr (by simp at hi; omega)), k1.fr f (no _ (by omega)) (no _ (by omega)) (fun i hi => no _ (by have := q3 i hi; omega)), k2.fr f (no _ (by omega)), ⟨av, k4.fr f (no _ (by omega)), k5.fr f (fun i hi => by have := k6 i hi; have := k5lt i hi; simp; omega), fun i hi => by have := k6 i hi; have := k5lt i hi; omega⟩, hB11, ⟨l3, k9.fr f (no _ (by omega)), hl3⟩, f.get k8 (no _ (Nat.le_refl _)), ⟨q1, q2, q3⟩, by omega, by omega, by omega, by omega, by omega⟩
  clear k1 k2 k3 k4 k5 k6 k7 k8 k9 k10 k11 k5lt hB11 hF11 hBf hF10 f8 hl1 hl2 hFl hsl hBx hBa hB5 hB5' hF57 hBs hB3 hF15
  obtain ⟨av, a1, a2, a3⟩ := z1.av
  refine ldC_bk a1 rfl (a2.sl.lenV (gtr ?_))
  have hopen : openF D.B = if (allF D.B).length < (rootF D.B).2.1 then foundOf gen life false 0 [] else foundOf gen life (rootF D.B).2.2 (rootF D.B).2.1 (allF D.B) := by
    unfold openF; rw [hgen, hlf]
  have zpf := z1.fpf.lt
  clear a1 a2 a3 av
  -- behind the records
  have last : ∀ (sz e : Nat) (all : List Nat) (wh : Bool) (sv lsv : Value) (lj : List (List Nat)) (w15 : World), openF D.B = foundOf gen life wh sz all → sz ≤ all.length → e = sz + (encAll lj).length → e ≤ all.length → all.length ≤ 1802240 → lj = recs (all.drop sz) → OZ w pd bb ps pa pf b3 dl lv D gen life all [.bool wh, sv, lsv] w15 →
      Own w15 5 1 sv (all.take sz).length (bytes (all.take sz)) → (∀ i ∈ fp sv, pf < i) → (∃ B, (∀ i ∈ fp sv, i < B) ∧ pf < B ∧ Ga sOwn 24 B w15 lsv lj) →
       (Bin Try.prog (At w15) .quo 3 false true (.int .i64 e) (.int .i64 55) fun t95_59 =>
       LdC (At w15) (ptr pa) fun t96_60 =>
       Bin Try.prog (At w15) .quo 3 false true (.int .i64 e) (.int .i64 55) fun t98_61 =>
       Bin Try.prog (At w15) .mul 3 false true t98_61 (.int .i64 55) fun t99_62 =>
       SlcS 1 t96_60 (some t99_62) (some (.int .i64 e)) none fun t101_63 =>
       Do Try.prog (Builtin.append_ #[24, 24] 24 #[(.slice none 0 0), t101_63]) w15 fun t102_64 w_65 =>
       NilC (ptr ps) fun t103_66 =>
       FAd 4 t103_66 fun t104_67 =>
       DoU Try.prog (Instr.storeAt 3 t104_67 t95_59) w_65 fun u_68 w_69 =>
       NilC (ptr ps) fun t105_70 =>
       FAd 3 t105_70 fun t106_71 =>
       DoU Try.prog (Instr.storeAt 24 t106_71 t102_64) w_69 fun u_72 w_73 =>
       ∃ S_74 : World → Prop, S_74 (World.drew w_73) ∧
       FAd 2 (ptr pf) fun t109_75 =>
       LdC S_74 t109_75 fun t110_76 =>
       Len t110_76 fun t111_77 =>
       FAd 2 (ptr pf) fun t112_78 =>
       LdC S_74 t112_78 fun t113_79 =>
       Len t113_79 fun t114_80 =>
       NilC (ptr ps) fun t115_81 =>
       FAd 5 t115_81 fun t116_82 =>
       DoU Try.prog (Instr.storeAt 3 t116_82 t111_77) (World.drew w_73) fun u_83 w_84 =>
       S_74 w_84 ∧
       NilC (ptr ps) fun t117_85 =>
       FAd 6 t117_85 fun t118_86 =>
       DoU Try.prog (Instr.storeAt 3 t118_86 t114_80) w_84 fun u_87 w_88 =>
       CallF Try.prog 69 #[ptr pd] w_88 fun t120_89 w_90 =>
       ∃ S_91 : World → Prop, S_91 (World.drew w_90) ∧
       LdA S_91 3 (ptr pf) fun t122_92 =>
       DoU Try.prog (Instr.storeAt 33 (ptr b3) t122_92) (World.drew w_90) fun u_93 w_94 =>
       w_94.heap[dl]? = some (.deferred (some [])) ∧
       LdA (At (setO w_94 dl (.deferred none))) 3 (ptr b3) fun r_95 =>
       Opened w pd bb D.B (.tuple #[ptr ps, r_95, (.int .i64 0)]) (setO w_94 dl (.deferred none))) := by
    intro sz e all wh sv lsv lj w15 hop hsz2 he hea halen hlj z hsv hsvn hga
    obtain ⟨B, hB1, hB2, ga⟩ := hga
    obtain ⟨av, a1, a2, a3⟩ := z.av
    have o1 := z.o1; have o2 := z.o2; have o3 := z.o3; have o4 := z.o4; have o5 := z.o5
    have e1 : ((e : Int).tdiv 55) = ((e / 55 : Nat) : Int) := rfl
    have e2 : IntKind.i64.wrap ((e / 55 : Nat) : Int) = ((e / 55 : Nat) : Int) := Go.IntWalk.i64_in _ (by omega)
    refine quo (by omega) ?_
    rw [e1, e2]
    refine ldC_bk a1 rfl (quo (by omega) ?_)
    rw [e1, e2]
    refine mul64 (by omega) ?_
    have e3 : ((e / 55 : Nat) : Int) * 55 = ((e / 55 * 55 : Nat) : Int) := by push_cast; rfl
    rw [e3]
    refine blh (l := e / 55 * 55) (m := e) a2.sl a2.cap (by omega) hea ?_
    intro x16 hx16 _ _
    have hlen16 : ((all.take e).drop (e / 55 * 55)).length < 55 := by rw [List.length_drop, List.length_take]; omega
    refine row_append (row_nil w15) hx16 (by simp only [List.length_nil]; omega) ?_
    intro tv w16 hN16 _ _
    rw [List.nil_append] at hN16
    have zz := z.step hN16.fr (by simp)
    have hga16 := ga.fr hN16.fr (by simp)
    have hsv16 := hsv.fr hN16.fr (fun i _ => by simp)
    have hplt := z.fpf.lt
    have htv : ∀ i ∈ fp tv, w15.heap.size ≤ i := hN16.new
    obtain ⟨At, ct, htve⟩ := hN16.own.len
    refine nilC (fad (store' zz.st (by kernel_rfl) (by simp) rfl ?_))
    intro w17 hB17 hF17 hs17
    refine nilC (fad (store' hB17 (by kernel_rfl) (by simp) (by rw [htve]; rfl) ?_))
    intro w18 hB18 hF18 hs18
    obtain ⟨Al, cl, hlse⟩ := ga.slice
    have g1618 : Fr [ps] w16 w18 := hF17.t hF18
    have hpf18 := zz.fpf.fr g1618 (by simp; omega)
    refine ⟨fun w' => Bk w' pf 33 [.bool wh, sv, lsv], hpf18.drew, ?_⟩
    rw [hlse] at hpf18 ⊢
    refine fad (ldC_S (fun w' h => h) rfl (len (fad (ldC_S (fun w' h => h) rfl (len ?_)))))
    refine nilC (fad (store' hB18.drew (by kernel_rfl) (by simp) rfl ?_))
    intro w19 hB19 hF19 hs19
    have hpf19 := hpf18.drew.fr hF19 (by simp; omega)
    refine ⟨hpf19, ?_⟩
    refine nilC (fad (store' hB19 (by kernel_rfl) (by simp) rfl ?_))
    intro w20 hB20 hF20 hs20
    have g1620 : Fr [ps] w16 w20 := ((g1618.t (Fr.drew _ w18)).t hF19).t hF20
    have hB20' : Bk w20 ps 124 [ptr pd, .int .u32 gen, .int .u32 life, tv, .int .i64 (e / 55 : Nat), .int .i64 lj.length, .int .i64 lj.length] := by simpa using hB20
    obtain ⟨q1, q2, q3⟩ := z.o0
    have hd20 := zz.dk.fr g1620 (by simp; omega) (by simp; omega) (fun i hi => by have := q3 i hi; simp; omega)
    refine (dsync_c hd20).use ?_
    rintro _ w21 ⟨rfl, hd21, hF21, hs21⟩
    have hpf21 := (hpf19.fr hF20 (by simp; omega)).fr hF21 (by simp; omega)
    refine ⟨fun w' => Bk w' pf 33 [.bool wh, sv, .slice Al lj.length cl], hpf21.drew, ?_⟩
    refine ldA_S (l := [.bool wh, sv, .slice Al lj.length cl]) (fun w' h => h) (by simp) ?_
    obtain ⟨l3', hb3', hl3'⟩ := zz.fb3
    have hb321 := (hb3'.fr g1620 (by simp; omega)).fr hF21 (by simp; omega)
    have osv : sv.oneCell' = true := by obtain ⟨_, _, rfl⟩ := hsv.len; rfl
    refine store_all (vs := [.bool wh, sv, .slice Al lj.length cl]) hb321.drew (by kernel_rfl) hl3' rfl (by omega) (fun u hu => by
      simp only [List.mem_cons, List.not_mem_nil, or_false] at hu
      rcases hu with rfl | rfl | rfl <;> first | rfl | assumption) ?_
    intro w22 hB22 hF22 hs22
    have hdl22 : w22.heap[dl]? = some (.deferred (some [])) := hF22.get (show (World.drew w21).heap[dl]? = _ from hF21.get (g1620.get zz.fdl (by simp; omega)) (by simp; omega)) (by simp; omega)
    refine ⟨hdl22, ?_⟩
    have fE : Fr [dl] w22 (setO w22 dl (.deferred none)) := Fr.setO w22 _ (.inl (by simp))
    generalize setO w22 dl (.deferred none) = w23 at *
    refine ldA_bk (hB22.fr fE (by simp; omega)) (by simp) ?_
    have g1623 : Fr [ps, pd, b3, dl] w16 w23 := (((g1620.mono (fun i hi => .inl (by simp at hi; simp [hi]))).t (hF21.mono (fun i hi => .inl (by simp at hi; simp [hi])))).t ((Fr.drew _ w21).t (hF22.mono (fun i hi => .inl (by simp at hi; simp [hi]))))).t (fE.mono (fun i hi => .inl (by simp at hi; simp [hi])))
    have g2023 : Fr [pd, b3, dl] w20 w23 := ((hF21.mono (fun i hi => .inl (by simp at hi; simp [hi]))).t ((Fr.drew _ w21).t (hF22.mono (fun i hi => .inl (by simp at hi; simp [hi]))))).t (fE.mono (fun i hi => .inl (by simp at hi; simp [hi])))
    have g2123 : Fr [b3, dl] w21 w23 := ((Fr.drew _ w21).t (hF22.mono (fun i hi => .inl (by simp at hi; simp [hi])))).t (fE.mono (fun i hi => .inl (by simp at hi; simp [hi])))
    have htvn : ∀ i ∈ fp tv, pf < i := fun i hi => by have := htv i hi; omega
    have hfound : openF D.B = ⟨gen, life, wh, all.take sz, lj, e / 55, (all.take e).drop (e / 55 * 55)⟩ := by
      rw [hop]; unfold foundOf; rw [← hlj, ← he]
    obtain ⟨F2, hF2, hF2B⟩ := ga.rd (by decide)
    have hF2lt := (sOwn.list (by decide)).lt hF2
    replace hF2 := (sOwn.list (by decide)).fr ((sOwn.list (by decide)).fr hF2 hN16.fr (fun i _ => by simp)) g1623 (fun i hi => by have := hF2B i hi; simp; omega)
    have w0w15 := z.fr.size
    unfold Opened
    rw [hfound]
    rw [hlse] at hF2
    refine ⟨ps, tv, sv, .slice Al lj.length cl, F2, rfl, ?_, ?_, hF2, ?_, by omega, fun i hi => by have := htvn i hi; omega, fun i hi => by have := hsvn i hi; omega, fun i hi => by have := hF2B i hi; omega, ?_, ?_, ?_, ?_⟩
    · refine ⟨?_, hB20'.fr g2023 (by simp; omega), hN16.own.fr g1623 (fun i hi => by have := htvn i hi; simp; omega), by omega, by omega, by simp [fp_nil], fun hm => by have := htvn ps hm; omega, fun hm => by have := htvn pd hm; omega, fun hm => by have := htvn bb hm; omega, by simp [fp_nil], hg, hlife⟩
      exact hd21.fr g2123 (by simp; omega) (by simp; omega) (by simp [fp_nil])
    · exact hsv16.fr g1623 (fun i hi => by have := hsvn i hi; simp; omega)
    · refine (zz.fr.mono (Y := [pd]) (fun i hi => by simp at hi)).trans g1623 (fun i hi => ?_)
      simp only [List.mem_cons, List.not_mem_nil, or_false] at hi
      rcases hi with h' | h' | h' | h'
      · exact .inr (by omega)
      · exact .inl (by simp [h'])
      · exact .inr (by omega)
      · exact .inr (by omega)
    · intro hm; have := hsvn ps hm; omega
    · intro hm; have := hF2B ps hm; omega
    · intro i hi
      exact ⟨fun hm => by have := hsv.lt i hm; have := htv i hi; omega, fun hm => by have := hF2lt i hm; have := htv i hi; omega⟩
    · intro i hi hm; have := hF2B i hi; have := hB1 i hm; omega
  -- the snapshot, and the records behind it
  refine ⟨fun size' w' => ∃ (sz : Nat) (all : List Nat) (wh : Bool), size' = .int .i64 sz ∧ openF D.B = foundOf gen life wh sz all ∧ sz ≤ all.length ∧ all.length ≤ 1802240 ∧ (∀ x ∈ all, x < 256) ∧ OZ w pd bb ps pa pf b3 dl lv D gen life all [.bool wh, .slice none 0 0, .slice none 0 0] w', ?_, ?_⟩
  · rintro _ w12 ⟨sz, all, wh, rfl, hop, hsz2, hal, halb, z⟩
    obtain ⟨av, a1, a2, a3⟩ := z.av
    have zlt := z.fpf.lt
    refine ldC_bk a1 rfl (bhi (m := sz) a2.sl a2.cap hsz2 ?_)
    intro x13 hx13 _ _
    refine row_append (row_nil w12) hx13 (by simp only [List.length_nil, List.length_take]; omega) ?_
    intro sv w13 hN13 _ _
    rw [List.nil_append] at hN13
    have z13 := z.step hN13.fr (by simp)
    have osv : sv.oneCell' = true := by obtain ⟨_, _, rfl⟩ := hN13.own.len; rfl
    refine fad (store' z13.fpf (by kernel_rfl) (by simp) osv ?_)
    intro w14 hB14 hF14 hs14
    have hsvn : ∀ i ∈ fp sv, pf < i := fun i hi => by have := hN13.new i hi; omega
    have z14 : OZ w pd bb ps pa pf b3 dl lv D gen life all [.bool wh, sv, .slice none 0 0] w14 := z13.setf hF14 (by simpa using hB14)
    have hsv14 := hN13.own.fr hF14 (fun i hi => by have := hsvn i hi; simp; omega)
    have hsvlt := hsv14.lt
    obtain ⟨B, hBe⟩ : ∃ B, w14.heap.size = B := ⟨_, rfl⟩
    have hpfB : pf < B := by have := hN13.fr.size; omega
    rw [hBe] at hsvlt
    refine ⟨fun end' w' => ∃ (e : Nat) (lsv : Value) (lj : List (List Nat)), end' = .int .i64 e ∧ e = sz + (encAll lj).length ∧ e ≤ all.length ∧ lj = recs (all.drop sz) ∧ OZ w pd bb ps pa pf b3 dl lv D gen life all [.bool wh, sv, lsv] w' ∧ Own w' 5 1 sv (all.take sz).length (bytes (all.take sz)) ∧ Ga sOwn 24 B w' lsv lj, ?_, ?_⟩
    · rintro _ w15 ⟨e, lsv, lj, rfl, he, hea, hlj, z15, hsv15, ga⟩
      exact last sz e all wh sv lsv lj w15 hop hsz2 he hea hal hlj z15 hsv15 hsvn ⟨B, hsvlt, hpfB, ga⟩
    refine ⟨fun m end' w' => ∃ (e : Nat) (lsv : Value) (lj : List (List Nat)), end' = .int .i64 e ∧ e + m = all.length ∧ e = sz + (encAll lj).length ∧ lj.length ≤ e ∧ recs (all.drop sz) = lj ++ recs (all.drop e) ∧ OZ w pd bb ps pa pf b3 dl lv D gen life all [.bool wh, sv, lsv] w' ∧ Own w' 5 1 sv (all.take sz).length (bytes (all.take sz)) ∧ Ga sOwn 24 B w' lsv lj ∧ B ≤ w'.heap.size, all.length - sz,
      ⟨sz, .slice none 0 0, [], rfl, by omega, by simp [encAll], by simp, rfl, z14, hsv14, Ga.nil _ _ _ _, by omega⟩, ?_⟩
    rintro m _ w15 ⟨e, lsv, lj, rfl, hm, he, hlje, hrec, z15, hsv15, ga, hBw⟩
    obtain ⟨av15, b1, b2, b3'⟩ := z15.av
    refine ldC_bk b1 rfl (b2.sl.lenV (sub64 (by omega) (geq (if_p (fun hge => ?_) (fun hlt => ?_)))))
    case refine_2 =>
      have hst : recs (all.drop e) = [] := recs_stop (fun ho => by have := (St.oneRec_iff _).1 ho; rw [List.length_drop] at this; omega)
      rw [hst, List.append_nil] at hrec
      exact ⟨rfl, e, lsv, lj, rfl, he, by omega, hrec.symm, z15, hsv15, ga⟩
    refine ldC_bk b1 rfl (blo (l := e) b2.sl b2.cap (by omega) ?_)
    intro x16 hx16 _ _
    refine (four_c hx16 (by rw [List.length_drop]; omega) (fun c hc => halb c (List.mem_of_mem_drop hc))).use ?_
    rintro _ w16 ⟨rfl, hF16⟩
    have hf := St.four_lt (l := all.drop e) (fun c hc => halb c (List.mem_of_mem_drop hc))
    have hone := St.oneRec_iff (all.drop e)
    rw [List.length_drop] at hone
    have z16 := z15.step hF16 (by simp)
    have hsv16 := hsv15.fr hF16 (fun i _ => by simp)
    have ga16 := ga.fr hF16 (by simp)
    have hstep := recs_step (l := all.drop e)
    have hstop := recs_stop (l := all.drop e)
    have edrop : (all.drop e).drop (4 + four (all.drop e)) = all.drop (e + 4 + four (all.drop e)) := by rw [List.drop_drop, Nat.add_assoc]
    have etake : (all.take (e + 4 + four (all.drop e))).drop (e + 4) = ((all.drop e).drop 4).take (four (all.drop e)) := by
      rw [List.drop_take, List.drop_drop, Nat.add_sub_cancel_left]
    have eplen : (((all.drop e).drop 4).take (four (all.drop e))).length = min (four (all.drop e)) (all.length - (e + 4)) := by
      rw [List.length_take, List.length_drop, List.length_drop, Nat.sub_sub]
    generalize four (all.drop e) = n at *
    refine conv_i64 (by omega) (gtr ?_)
    have brk : ¬ (n ≤ 65536 ∧ n ≤ all.length - e - 4) → (([dl] : List Nat) = [dl] ∧ ∃ (e' : Nat) (lsv : Value) (lj : List (List Nat)), Value.int .i64 (e : Int) = .int .i64 e' ∧ e' = sz + (encAll lj).length ∧ e' ≤ all.length ∧ lj = recs (all.drop sz) ∧ OZ w pd bb ps pa pf b3 dl lv D gen life all [.bool wh, sv, lsv] w16 ∧ Own w16 5 1 sv (all.take sz).length (bytes (all.take sz)) ∧ Ga sOwn 24 B w16 lsv lj) := fun hn => by
      have hst := hstop (fun ho => hn (by have := hone.1 ho; omega))
      rw [hst, List.append_nil] at hrec
      exact ⟨rfl, e, lsv, lj, rfl, he, by omega, hrec.symm, z16, hsv16, ga16⟩
    obtain ⟨av16, c1, c2, c3⟩ := z16.av
    have hlv16 := c2.sl
    by_cases h6 : (65536 : Int) < (n : Int)
    · exact gdF (by simp [isB, h6]) (gdF (by simp [isB, h6]) (gdF (by simp [isB, h6]) (gdF (by simp [isB, h6]) (gdF (by simp [isB, h6]) (gdF (by simp [isB, h6]) (gdF (by simp [isB, h6]) (pick_t (by simp [h6]) (if_t rfl (brk (by omega)))))))))) 
    refine gdT (by simp [isB, h6]) rfl (gdT (by simp [isB, h6]) (ldC_bk c1 rfl rfl) (gdT (by simp [isB, h6]) (c2.sl.lenV rfl) (gdT (by simp [isB, h6]) rfl (gdT (by simp [isB, h6]) (sub64 (by omega) rfl) (gdT (by simp [isB, h6]) (sub64 (by omega) rfl) (gdT (by simp [isB, h6]) (gtr rfl) (pick_f (by simp [h6]) ?_)))))))
    refine if_p (fun h7 => brk (by omega)) (fun h7 => ?_)
    clear brk
    have hst := hstep (hone.2 (by omega))
    rw [hst, edrop] at hrec
    have z17 := z16.step (Fr.drew [] w16) (by simp)
    obtain ⟨av17, d1, d2, d3⟩ := z17.av
    refine ⟨fun w' => Bk w' pf 33 [.bool wh, sv, lsv] ∧ Bk w' pa 24 [av17], ⟨z17.fpf, d1⟩, ?_⟩
    refine fad (ldC_S (fun w' h => h.1) rfl (ldC_S (fun w' h => h.2) rfl (add64 (by omega) (add64 (by omega) (add64 (by omega) ?_)))))
    rw [show (e : Int) + 4 = ((e + 4 : Nat) : Int) by omega, show ((e + 4 : Nat) : Int) + (n : Int) = ((e + 4 + n : Nat) : Int) by omega]
    refine blh (l := e + 4) (m := e + 4 + n) d2.sl d2.cap (by omega) (by omega) ?_
    intro x18 hx18 _ _
    rw [etake] at hx18
    have hpl : (((all.drop e).drop 4).take n).length = n := by rw [eplen]; omega
    generalize ((all.drop e).drop 4).take n = p at *
    refine row_append (row_nil (World.drew w16)) hx18 (by simp only [List.length_nil]; omega) ?_
    intro x19 w19 hN19 _ _
    rw [List.nil_append] at hN19
    have z19 := z17.step hN19.fr (by simp)
    have hsz17 : (World.drew w16).heap.size = w16.heap.size := rfl
    have hsz16 := hF16.size
    have ga19 := (ga16.fr (Fr.drew [] w16) (by simp)).fr hN19.fr (by simp)
    have hsv19 := (hsv16.fr (Fr.drew [] w16) (fun i _ => by simp)).fr hN19.fr (fun i _ => by simp)
    have hlow := ga19.low
    have hlvlt := ga.lt
    have opa := z19.o4
    have opf := z19.o5
    have S19 : ∀ w', Fr (fp lsv) w19 w' → Bk w' pf 33 [.bool wh, sv, lsv] ∧ Bk w' pa 24 [av17] := fun w' f =>
      ⟨z19.fpf.fr f (fun hm => by have := hlow pf hm; omega), (d1.fr hN19.fr (by simp)).fr f (fun hm => by have := hlow pa hm; omega)⟩
    refine ⟨S19 _ (Fr.refl _ _), ?_⟩
    have hz19 := hN19.fr.size
    refine ga19.push_S (S := sOwn) (a := p) (z := .slice none 0 0) (bytes := 24) (cs := [x19]) (F := fp x19) (by decide) (by decide) (by decide) (by omega) (by omega) Try.underlying23 (by kernel_rfl) (by kernel_rfl) ⟨x19, rfl, hN19.own, rfl⟩ (fun i hi => by have := hN19.new i hi; exact ⟨by omega, fun hm => by have := hlvlt i hm; omega⟩) (by obtain ⟨_, _, rfl⟩ := hN19.own.len; rfl) (fun w' f => ⟨S19 w' f, S19 w' f⟩) ?_
    intro lsv' w20 ga20 hF20
    have z20 := z19.step hF20 (fun i hi => by have := hlow i hi; omega)
    have hsv20 := hsv19.fr hF20 (fun i hi hm => by have := hlow i hm; have := hsvlt i hi; omega)
    refine fad (store' z20.fpf (by kernel_rfl) (by simp) ga20.one ?_)
    intro w21 hB21 hF21 hs21
    have z21 : OZ w pd bb ps pa pf b3 dl lv D gen life all [.bool wh, sv, lsv'] w21 := z20.setf hF21 (by simpa using hB21)
    have hsv21 := hsv20.fr hF21 (fun i hi => by have := hsvn i hi; simp; omega)
    have ga21 := ga20.fr hF21 (by simp; omega)
    refine add64 (by omega) (add64 (by omega) ⟨m - (4 + n), by omega, rfl, e + 4 + n, lsv', lj ++ [p], by congr 1; omega, by omega, ?_, by simp; omega, ?_, z21, hsv21, ga21, ?_⟩)
    · have : (encAll (lj ++ [p])).length = (encAll lj).length + (4 + n) := by
        rw [St.encAll_append, List.length_append]
        congr 1
        simp [encAll, St.encRec, put4]; omega
      rw [this]; omega
    · rw [hrec]; simp
    · have := hF20.size; omega
  · refine if_p (fun hgt => ?_) (fun hle => ?_)
    · refine ⟨[.bool false, .slice none 0 0, .slice none 0 0], by kernel_rfl, by kernel_rfl, ?_⟩
      refine store_all (n := 3) (vs := [.bool false, .slice none 0 0, .slice none 0 0]) z1.fpf (by kernel_rfl) rfl rfl (by omega) (by simp [Value.oneCell']) ?_
      intro w12 hB12 hF12 hs12
      have z12 : OZ w pd bb ps pa pf b3 dl lv D gen life (allF D.B) [.bool false, .slice none 0 0, .slice none 0 0] w12 := z1.setf hF12 hB12
      obtain ⟨av, a1, a2, a3⟩ := z12.av
      refine store' a1 (by kernel_rfl) (by simp) rfl ?_
      intro w13 hB13 hF13 hs13
      have o1 := z12.o1
      have o2 := z12.o2
      have o3 := z12.o3
      have o4 := z12.o4
      have o5 := z12.o5
      obtain ⟨l3', m1, m2⟩ := z12.fb3
      clear last
      have no : ∀ i, i ≠ pa → i ∉ [pa] := fun i hi => by simpa using hi
      have hgt' : (allF D.B).length < (rootF D.B).2.1 := by omega
      refine ⟨rfl, 0, [], false, rfl, by rw [hopen, if_pos hgt'], Nat.le_refl _, by simp, by simp, ?_⟩
      exact ⟨z12.fr.trans hF13 (fun i hi => .inr (by simp at hi; omega)), z12.dk.fr hF13 (no _ (by omega)) (no _ (by omega)) (fun i hi => no _ (by have := q3 i hi; omega)), z12.st.fr hF13 (no _ (by omega)), ⟨.slice none 0 0, by simpa using hB13, Own.nil _ _ _, by simp [fp_nil]⟩, z12.fpf.fr hF13 (no _ (by omega)), ⟨l3', m1.fr hF13 (no _ (by omega)), m2⟩, hF13.get z12.fdl (no _ (by omega)), z12.o0, o1, o2, o3, o4, o5⟩
    · exact ⟨rfl, (rootF D.B).2.1, allF D.B, (rootF D.B).2.2, rfl, by rw [hopen, if_neg (by omega)], by omega, halll, hallb, z1⟩
end Go.Proofs.Ytmlaconjeplhpaa

set_option linter.unusedVariables false
set_option linter.unusedSimpArgs false
set_option maxRecDepth 20000
namespace Go.Proofs.Ytmlaconjeplhpaa
open Go Go.Vc
open St (Dsk All64 Blk pad four put4 halfN base hb walk eldest rootF openF putF rootL)

/-- Bytes that are read. -/
def sSl : Shape (List Nat) where
  size := 1
  rd w cs l F := ∃ v, cs = [v] ∧ capOk v ∧ Sl w 1 v l.length (bytes l) ∧ F = (if l = [] then [] else fp v)
  len := by rintro w cs l F ⟨v, rfl, _⟩; rfl
  one := by rintro w cs l F ⟨v, rfl, _, h, _⟩ u hu; rw [List.mem_singleton.1 hu]; exact (sl_one h).1
  fr := by
    rintro w w' cs l F X ⟨v, rfl, hc, h, rfl⟩ f hx
    refine ⟨v, rfl, hc, h.fr1 f (fun h0 i hi => hx i ?_), rfl⟩
    rw [if_neg (by intro e; rw [e] at h0; simp at h0)]; exact hi
  lt := by
    rintro w cs l F ⟨v, rfl, hc, h, rfl⟩ i hi
    split at hi
    · simp at hi
    · rename_i hne
      obtain ⟨A, c, rfl, hl, hn, hcc⟩ := h
      cases A with
      | none => simp [fp_nil] at hi
      | some a =>
        simp [fp_some] at hi
        subst hi
        cases l with
        | nil => exact absurd rfl hne
        | cons x l =>
          have := hcc a rfl 0 _ (bytes_get (bs := x :: l) (i := 0) (by simp))
          have hlt := World.block_lt_of_cell? w _ this
          have hb : (a.add 0).block = a.block := by unfold Addr.add; split <;> rfl
          rwa [hb] at hlt
theorem own_sl {w : World} {v : Value} {l : List Nat} (h : Own w 5 1 v l.length (bytes l)) : ∃ F, sSl.rd w [v] l F ∧ ∀ i ∈ F, i ∈ fp v := ⟨_, ⟨v, rfl, h.cap, h.sl, rfl⟩, fun i hi => by split at hi <;> simp_all⟩
theorem rows_own {w : World} : ∀ {l : List (List Nat)} {cs : List Value} {F : List Nat}, sOwn.rows w l cs F → ∃ G, sSl.rows w l cs G ∧ ∀ i ∈ G, i ∈ F
  | [], cs, F, h => ⟨[], ⟨h.1, rfl⟩, by simp⟩
  | a :: l, cs, F, ⟨c1, c2, F1, F2, hc, hF, ⟨v, h1, h2, h3⟩, h4⟩ => by
    obtain ⟨G, hG, hs⟩ := rows_own h4
    obtain ⟨F', hr, hs'⟩ := own_sl h2
    subst h1
    refine ⟨F' ++ G, ⟨[v], c2, F', G, hc, rfl, hr, hG⟩, fun i hi => ?_⟩
    rw [hF]
    rcases List.mem_append.1 hi with h | h
    · exact List.mem_append.2 (.inl (by rw [h3]; exact hs' i h))
    · exact List.mem_append.2 (.inr (hs i h))
abbrev sLs : Shape (List (List Nat)) := sSl.list (by decide)
theorem own_ls {w : World} {v : Value} {l : List (List Nat)} {F : List Nat} (h : (sOwn.list (by decide)).rd w [v] l F) : ∃ G, sLs.rd w [v] l G ∧ ∀ i ∈ G, i ∈ F := by
  obtain ⟨x, cells, G, e, hcap, hsl, hrows, rfl⟩ := h
  obtain ⟨G', h1, h2⟩ := rows_own hrows
  refine ⟨_, ⟨x, cells, G', e, hcap, hsl, h1, rfl⟩, fun i hi => ?_⟩
  rcases List.mem_append.1 hi with h | h
  · exact List.mem_append.2 (.inl h)
  · exact List.mem_append.2 (.inr (h2 i h))
theorem list_open {α : Type} {S : Shape α} {hs : 0 < S.size} {w : World} {x : Value} {l : List α} {F : List Nat} (h : (S.list hs).rd w [x] l F) : ∃ cells G, capOk x ∧ Sl w S.size x l.length cells ∧ S.rows w l cells G ∧ (∀ i ∈ G, i ∈ F) ∧ F = (if l = [] then [] else fp x) ++ G := by
  obtain ⟨v, cells, G, e, hcap, hsl, hrows, rfl⟩ := h
  obtain rfl := (List.cons.inj e).1
  exact ⟨cells, G, hcap, hsl, hrows, fun i hi => by simp [hi], rfl⟩
theorem rows_take {α : Type} {S : Shape α} {w : World} : ∀ {l : List α} {cs : List Value} {F : List Nat} (n : Nat), S.rows w l cs F → ∃ G, S.rows w (l.take n) (cs.take (n * S.size)) G ∧ ∀ i ∈ G, i ∈ F
  | [], cs, F, n, h => ⟨[], by rw [h.1]; simp [Shape.rows], by simp⟩
  | a :: l, cs, F, 0, h => ⟨[], by simp [Shape.rows], by simp⟩
  | a :: l, cs, F, n + 1, ⟨c1, c2, F1, F2, hc, hF, h1, h2⟩ => by
    obtain ⟨G, hG, hs⟩ := rows_take n h2
    have hl := S.len h1
    refine ⟨F1 ++ G, ⟨c1, c2.take (n * S.size), F1, G, ?_, rfl, h1, hG⟩, fun i hi => ?_⟩
    · rw [hc, List.take_append, List.take_of_length_le (by rw [Nat.add_mul]; omega), hl, Nat.add_mul, Nat.one_mul, Nat.add_sub_cancel]
    · rw [hF]
      rcases List.mem_append.1 hi with h | h
      · exact List.mem_append.2 (.inl h)
      · exact List.mem_append.2 (.inr (hs i h))
theorem lit_new {w : World} {k : Value → World → Prop} {t e : TypeId} {z : Value} {bytes n : Nat} {vs : List Value} {parts : Array (Nat × Value)} (ht : Try.prog.underlying t = some (.slice e)) (hi : (Try.prog.info? e).map (fun i => (i.zero, i.size, i.bytes)) = some (some z, 1, bytes)) (hz : z.cells.toList.length = 1)
    (hp : parts = ((vs.zipIdx 0).map fun x => (x.2, x.1)).toArray) (hn : vs.length = n) (hle : n ≤ 1000000) (hv : ∀ v ∈ vs, v.cells = #[v]) (h : ∀ v w', New w w' e 1 v n vs → k v w') : Do Try.prog (Instr.buildSlice t n parts) w k := by
  refine lit' ht hi hz hp hn (by omega) hv ?_
  intro b w' hb hB hF hs
  refine h _ w' ⟨⟨by omega, .inr ⟨b, n, vs.toArray, rfl, Nat.zero_le _, hB, Nat.le_refl _, by unfold maxLen; omega, by simp [hn], by simp [← hn]⟩⟩, hF, fun i hi => by simp [fp_some] at hi; omega⟩
theorem twin_c {w : World} {x : Value} {l : List Nat} (hx : Sl w 1 x l.length (bytes l)) (hl : l.length ≤ 1000000000) : CallF Try.prog 24 #[x] w fun r w' => Row w w' r l := by
  refine C_furlongref01_Twin_link ?_
  unfold C_furlongref01_Twin
  refine lit_new (vs := []) Try.underlying24 infoB rfl rfl rfl (by omega) (by simp) ?_
  intro v w1 hN
  refine row_append (bs := []) hN (hx.fr hN.fr (fun i _ => by simp)) (by simp; omega) ?_
  intro v2 w2 hN2 _ _
  exact hN2
theorem bytes_c {w : World} {x y : Value} {a b : List Nat} (hx : Sl w 1 x a.length (bytes a)) (ha : ∀ c ∈ a, c < 256) (hy : Sl w 1 y b.length (bytes b)) (hb : ∀ c ∈ b, c < 256) :
    CallF Try.prog 25 #[x, y] w fun r w' => r = .bool (decide (a = b)) ∧ w' = w := by
  refine C_furlongref01_Bytes_link ?_
  unfold C_furlongref01_Bytes
  refine do_bytes_string Try.underlying24 Try.underlying5 Try.underlying9 hx ha ?_
  refine do_bytes_string Try.underlying24 Try.underlying5 Try.underlying9 hy hb ?_
  refine eq_str ⟨?_, rfl⟩
  congr 1
  exact decide_eq_decide.2 (strOf_inj ha hb)
theorem lists_c {w : World} {x y : Value} {a b : List (List Nat)} {F G : List Nat} (hx : sLs.rd w [x] a F) (hy : sLs.rd w [y] b G) (ha : ∀ p ∈ a, ∀ c ∈ p, c < 256) (hb : ∀ p ∈ b, ∀ c ∈ p, c < 256) (hl : a.length ≤ 1000000000 ∧ b.length ≤ 1000000000) :
    CallF Try.prog 32 #[x, y] w fun r w' => r = .bool (decide (a = b)) ∧ Fr [] w w' := by
  obtain ⟨cx, Gx, _, hsx, hrx, _⟩ := list_open hx
  obtain ⟨cy, Gy, _, hsy, hry, _⟩ := list_open hy
  refine C_furlongref01_Lists_link ?_
  unfold C_furlongref01_Lists
  refine hsx.lenV (hsy.lenV (neq (if_p (fun h => ?_) (fun h => ?_))))
  · refine ⟨?_, Fr.refl _ _⟩
    congr 1; symm; rw [decide_eq_false_iff_not]; intro e; exact h (by rw [e])
  have hlen : a.length = b.length := by omega
  refine hsx.lenV ?_
  refine ⟨fun m t i w' => ∃ j : Nat, j + m = a.length ∧ i = .int .i64 j ∧ a.take j = b.take j ∧ Fr [] w w', a.length, ⟨0, by omega, rfl, by simp, Fr.refl _ _⟩, ?_⟩
  rintro m t i w1 ⟨j, hj, rfl, he, hf⟩
  refine lss (if_p (fun hlt => ?_) (fun hge => ?_))
  · have hja : j < a.length := by omega
    have hjb : j < b.length := by omega
    have hfd := hf.t (Fr.drew [] w1)
    have hxd : Sl (World.drew w1) 1 x a.length cx := hsx.fr hfd (fun i _ => by simp)
    have hyd : Sl (World.drew w1) 1 y b.length cy := hsy.fr hfd (fun i _ => by simp)
    obtain ⟨Ga, ⟨v1, e1, _, s1, _⟩, _⟩ := rows_get sSl (rows_fr sSl hfd hrx (fun i _ => by simp)) j hja
    obtain ⟨Gb, ⟨v2, e2, _, s2, _⟩, _⟩ := rows_get sSl (rows_fr sSl hfd hry (fun i _ => by simp)) j hjb
    have g : ∀ {cells : List Value} {v : Value}, (cells.drop (j * sSl.size)).take sSl.size = [v] → cells[j]? = some v := by
      intro cells v e
      have hs : sSl.size = 1 := rfl
      rw [hs, Nat.mul_one] at e
      have := congrArg (fun l : List Value => l[0]?) e
      simpa [List.getElem?_take, List.getElem?_drop] using this
    refine ⟨fun w' => Sl w' 1 x a.length cx ∧ Sl w' 1 y b.length cy, ⟨hxd, hyd⟩, ?_⟩
    refine ix1S (fun w' h => h.1) hxd hja (g e1) (ix1S (fun w' h => h.2) hyd hjb (g e2) ?_)
    refine (bytes_c s1 (ha _ (List.getElem_mem hja)) s2 (hb _ (List.getElem_mem hjb))).use ?_
    rintro _ w2 ⟨rfl, rfl⟩
    refine ⟨⟨hxd, hyd⟩, notB (if_b (fun h => ?_) (fun h => ?_))⟩
    · refine ⟨?_, hfd⟩
      have hne : a[j] ≠ b[j] := by simpa using h
      congr 1; symm; rw [decide_eq_false_iff_not]; intro e; subst e; exact hne rfl
    · have heq : a[j] = b[j] := by simpa using h
      refine add64 (by omega) ⟨m - 1, by omega, j + 1, by omega, by congr 1, ?_, hfd⟩
      rw [List.take_succ_eq_append_getElem hja, List.take_succ_eq_append_getElem hjb, he, heq]
  · refine ⟨?_, hf⟩
    rw [List.take_of_length_le (by omega), List.take_of_length_le (by omega)] at he
    congr 1; symm; rw [decide_eq_true_iff]; exact he
theorem und31 : Try.prog.underlying 31 = some (.pointer (Try.prog.pointee 31)) := by kernel_rfl
section
variable {w : World} {ps pd bb : Nat} {lv tv x : Value} {D : Dsk} {gen life at' count safe : Nat} {tail p : List Nat}
theorem slen_c (h : Sk w ps pd bb lv tv D gen life at' count safe tail) : CallF Try.prog 22 #[ptr ps] w fun r w' => r = .int .i64 count ∧ w' = w := by
  refine C_store_Store_Len_link ?_
  unfold C_store_Store_Len
  exact ptr_eql und31 (if_f rfl (nilC (fad (ldC_bk h.blk rfl ⟨rfl, rfl⟩))))
theorem ssafe_c (h : Sk w ps pd bb lv tv D gen life at' count safe tail) : CallF Try.prog 23 #[ptr ps] w fun r w' => r = .int .i64 safe ∧ w' = w := by
  refine C_store_Store_Safe_link ?_
  unfold C_store_Store_Safe
  exact ptr_eql und31 (if_f rfl (nilC (fad (ldC_bk h.blk rfl ⟨rfl, rfl⟩))))
theorem ssync_c (h : Sk w ps pd bb lv tv D gen life at' count safe tail) : CallF Try.prog 21 #[ptr ps] w fun r w' => r = .int .i64 0 ∧ Sk w' ps pd bb (.slice none 0 0) tv ⟨D.B, []⟩ gen life at' count count tail ∧ Fr [ps, pd] w w' := by
  refine C_store_Store_Sync_link ?_
  unfold C_store_Store_Sync
  refine ptr_eql und31 (if_f rfl (nilC (fad (ldC_bk h.blk rfl ((dsync_c h.dk).use ?_)))))
  rintro _ w1 ⟨rfl, hd1, hF1, hs1⟩
  have h1 : Sk w1 ps pd bb (.slice none 0 0) tv ⟨D.B, []⟩ gen life at' count safe tail := h.redisk hd1 (hF1.mono (fun i hi => .inl (by simp at hi; simp [hi]))) (by simp [fp_nil])
  refine nilC (fad (ldC_bk h1.blk rfl (nilC (fad (store' h1.blk (by kernel_rfl) (by simp) rfl ?_)))))
  intro w2 hB2 hF2 hs2
  exact ⟨rfl, h1.refield (by simpa using hB2) hF2, (hF1.mono (fun i hi => .inl (by simp at hi; simp [hi]))).trans hF2 (fun i hi => .inl (by simp at hi; simp [hi]))⟩
/-- What a call that writes leaves. -/
def Wrote (w : World) (ps pd bb : Nat) (lv tv : Value) (D D' : Dsk) (gen life at2 count safe : Nat) (t2 : List Nat) (w' : World) : Prop :=
  ∃ lv' tv', Sk w' ps pd bb lv' tv' D' gen life at2 count safe t2 ∧ Fr (skX ps pd bb lv tv) w w' ∧ (∀ i ∈ skX ps pd bb lv' tv', i ∈ skX ps pd bb lv tv ∨ w.heap.size ≤ i)
theorem sappend_c (h : Sk w ps pd bb lv tv D gen life at' count safe tail) (hx : Sl w 1 x p.length (bytes p)) (hpb : ∀ c ∈ p, c < 256) (htb : ∀ c ∈ tail, c < 256) (hat : at' ≤ 1000000) (htl : tail.length ≤ 1000) (hL : D.L.length ≤ 100000000) (hc : count ≤ 1000000000) :
    CallF Try.prog 19 #[ptr ps, x] w fun r w' =>
      (r = .int .i64 3 ∧ 65536 < p.length ∧ Fr [] w w') ∨
      (r = .int .i64 10 ∧ p.length ≤ 65536 ∧ halfN D.B * 55 < at' * 55 + tail.length + (p.length + 4) ∧ Fr [] w w') ∨
      (r = .int .i64 0 ∧ p.length ≤ 65536 ∧ at' * 55 + tail.length + (p.length + 4) ≤ halfN D.B * 55 ∧ ∃ D' at2 t2, putF gen life (base (halfN D.B) gen) ((tail ++ St.encRec p).length + 1) D at' (tail ++ St.encRec p) = (D', at2, t2) ∧
        D'.L.length ≤ D.L.length + 100000 ∧ Wrote w ps pd bb lv tv D D' gen life at2 (count + 1) safe t2 w') := by
  refine C_store_Store_Append_link ?_
  unfold C_store_Store_Append
  refine ptr_eql und31 (if_f rfl (hx.lenV (gtr (if_p (fun hgt => .inl ⟨rfl, by omega, Fr.refl _ _⟩) (fun hle => ?_)))))
  refine hx.lenV (add64 (by omega) ?_)
  rw [show (p.length : Int) + 4 = ((p.length + 4 : Nat) : Int) by omega]
  refine (fits_c h (p.length + 4) ⟨by omega, by omega⟩).use ?_
  rintro _ w1 ⟨rfl, hF1⟩
  refine notB (if_b (fun hn => ?_) (fun hn => ?_))
  · have : ¬ (((p.length + 4 : Nat) : Int) ≤ ((halfN D.B : Nat) - (at' : Int)) * 55 - tail.length) := by simpa using hn
    exact .inr (.inl ⟨rfl, by omega, by omega, hF1⟩)
  · have hfit : ((p.length + 4 : Nat) : Int) ≤ ((halfN D.B : Nat) - (at' : Int)) * 55 - tail.length := by simpa using hn
    refine hx.lenV (conv_u32 (by omega) ?_)
    refine (put_c (row_nil w1) p.length (by simp)).use ?_
    intro v2 w2 hN2
    rw [List.nil_append] at hN2
    have hF02 := hF1.t hN2.fr
    refine row_append hN2 (hx.fr hF02 (fun i _ => by simp)) (by simp only [St.put4_length]; omega) ?_
    intro v3 w3 hN3 _ _
    have hF03 := hF1.t hN3.fr
    have h3 := h.fresh hF03
    have hrec : put4 p.length ++ p = St.encRec p := rfl
    rw [hrec] at hN3
    have hel : (St.encRec p).length = 4 + p.length := by simp [St.encRec, put4]; omega
    refine (sput_c h3 hN3.own.sl (fun c hc => (List.mem_append.1 hc).elim (htb c) (St.encRec_lt hpb c)) hat (by rw [List.length_append]; omega) hL).use ?_
    rintro _ w4 ⟨rfl, lv4, tv4, D', at2, t2, hput, h4, hF4, hs4, hL4⟩
    refine nilC (fad (ldC_bk h4.blk rfl (add64 (by omega) (nilC (fad (store' h4.blk (by kernel_rfl) (by simp) rfl ?_))))))
    intro w5 hB5 hF5 hs5
    refine .inr (.inr ⟨rfl, by omega, by omega, D', at2, t2, hput, by rw [List.length_append] at hL4; omega, lv4, tv4, h4.refield (by simpa using hB5) hF5, ?_, fun i hi => (hs4 i hi).imp id (fun h => by have := hF03.size; omega)⟩)
    exact ((hF03.mono (fun i hi => by simp at hi)).trans hF4 (fun i hi => .inl hi)).trans hF5 (fun i hi => .inl (skX_mem.2 (by simp at hi; simp [hi])))
end
end Go.Proofs.Ytmlaconjeplhpaa

set_option linter.unusedVariables false
set_option linter.unusedSimpArgs false
set_option maxRecDepth 20000
namespace Go.Proofs.Ytmlaconjeplhpaa
open Go Go.Vc
open St (Dsk All64 Blk pad four put4 halfN base hb walk eldest rootF openF putF rootL)

/-- The mark of a text's bytes: they read as before. -/
theorem conv_lit {w : World} {b n c : Nat} {vs : List Value} {k : Value → World → Prop} (hB : Bk w b 5 vs) (hn : vs.length = n)
    (h : ∀ w', Fr [b] w w' → Sl w' 1 (.slice (some ⟨b, 0, none⟩) n c) n vs → k (.slice (some ⟨b, 0, none⟩) n c) w') : Do Try.prog (convert 24 24 (.slice (some ⟨b, 0, none⟩) n c)) w k := by
  have hsh : w.shape? b = some (5, vs.length) := by
    unfold World.shape?
    rw [show w.heap[b]? = _ from hB]
    simp
  have hlt := hB.lt
  have hrun : (convert 24 24 (.slice (some ⟨b, 0, none⟩) n c)).run Try.prog w = .ok (.slice (some ⟨b, 0, none⟩) n c) (w.freeze ⟨b, vs.length, none⟩ 1) := by
    simp [convert, run_underlying Try.underlying24, run_underlying Try.underlying5, markStringish, hsh]
  have hget : ∀ j, (w.freeze ⟨b, vs.length, none⟩ 1).heap[j]? = if j = b then some (.cells vs.toArray 5 (vs.length, vs.length + 1)) else w.heap[j]? := by
    intro j
    unfold World.freeze
    rw [if_neg (by decide)]
    show (w.heap.modify b _)[j]? = _
    rw [Array.getElem?_modify]
    by_cases e : b = j
    · subst e
      rw [if_pos rfl, if_pos rfl, show w.heap[b]? = _ from hB]
      rfl
    · rw [if_neg e, if_neg (fun e' => e e'.symm)]
  refine ⟨_, _, hrun, h _ ⟨rfl, rfl, rfl, ?_, ?_⟩ ?_⟩
  · unfold World.freeze
    rw [if_neg (by decide)]
    show w.heap.size ≤ (w.heap.modify b _).size
    rw [Array.size_modify]
    exact Nat.le_refl _
  · intro j hj hm
    rw [hget, if_neg (by simpa using hm)]
  · refine ⟨_, _, rfl, by omega, fun e => by simp at e, fun a ha => ?_⟩
    obtain rfl := Option.some.inj ha
    intro j v hj
    rw [Addr.add_lit]
    simp only [World.cell?, hget, if_true]
    simpa using hj
/-- A number behind bytes that are full. -/
theorem putg_c {w : World} {a : Addr} {bs : List Nat} (hv : Sl w 1 (.slice (some a) bs.length bs.length) bs.length (bytes bs)) (x : Nat) (hb : bs.length ≤ 1000000) :
    CallF Try.prog 72 #[.slice (some a) bs.length bs.length, .int .u32 x] w fun r w' => Row w w' r (bs ++ put4 x) := by
  refine C_store_put_link ?_
  unfold C_store_put
  refine conv_u8 (shrn (n := 8) rfl (by decide) (by omega) (conv_u8 (shrn (n := 16) rfl (by decide) (by omega) (conv_u8 (shrn (n := 24) rfl (by decide) (by omega) (conv_u8 ?_))))))
  have e : [Value.int .u8 ((x : Int) % 256), .int .u8 ((x : Int) / 2 ^ 8 % 256), .int .u8 ((x : Int) / 2 ^ 16 % 256), .int .u8 ((x : Int) / 2 ^ 24 % 256)] = bytes (put4 x) := by
    simp only [bytes, put4, List.map_cons, List.map_nil]
    congr 2
  refine lit' (vs := bytes (put4 x)) Try.underlying24 infoB rfl (by rw [← e]; rfl) rfl (by omega) (fun v hv => by obtain ⟨_, _, rfl⟩ := List.mem_map.1 hv; rfl) ?_
  intro b w1 hb1 hB hF hs
  obtain ⟨A, c, e1, hl, hn, hc⟩ := hv.fr hF (fun i _ => by simp)
  obtain ⟨e2, e3, e4⟩ : some a = A ∧ bs.length = bs.length ∧ bs.length = c := by simpa using e1
  subst e2
  obtain ⟨A', c', e1', hl', hn', hc'⟩ := hB.sl (n := (put4 x).length) (by rw [bytes_length]) 4
  obtain ⟨e2', _⟩ : some (⟨b, 0, none⟩ : Addr) = A' ∧ 4 = c' := by simpa [St.put4_length] using e1'
  subst e2'
  obtain ⟨i, hi', hz, hs', hby⟩ := info_of infoB
  obtain ⟨v', w', hrun, ho, hg⟩ := run_append_arg_grows (P := Try.prog) w1 24 24 5 i (.int .u8 0) 1 1 Try.underlying24 hi' hz hs' hby rfl (by omega) a bs.length bs.length (bytes bs) hl (hc a rfl) ⟨b, 0, none⟩ (put4 x).length 4 (bytes (put4 x)) hl' (hc' _ rfl) (by rw [St.put4_length]; omega) (by rw [St.put4_length]; unfold maxLen; omega) (by rw [St.put4_length]; omega)
  rw [← bytes_append, ← List.length_append] at ho
  have hF2 : Fr [] w w' := hF.t (Fr.of_grownBy hg)
  refine ⟨v', w', hrun, ⟨⟨ho.1, ho.2.imp id ?_⟩, hF2, ?_⟩⟩
  · rintro ⟨g, cap, cur, h1, h2, h3⟩
    exact ⟨g, cap, cur, h1, Nat.zero_le _, h3⟩
  · intro i hi
    rcases ho.2 with ⟨rfl, h0⟩ | ⟨g, cap, cur, rfl, h2, _⟩
    · simp [fp_nil] at hi
    · simp [fp_some] at hi
      subst hi
      have := hF.size
      omega
section
variable {w : World} {ps pd bb : Nat} {lv tv x : Value} {D : Dsk} {gen life at' count safe : Nat} {tail p : List Nat}
theorem schk_c (h : Sk w ps pd bb lv tv D gen life at' count safe tail) (hx : Sl w 1 x p.length (bytes p)) (hpb : ∀ c ∈ p, c < 256) (hg : gen + 1 < 4294967296) (hxd : 0 < p.length → ∀ i ∈ fp x, i ∉ skX ps pd bb lv tv) (hL : D.L.length ≤ 100000000) (hD : D.B.length ≤ 65536) :
    CallF Try.prog 20 #[ptr ps, x] w fun r w' =>
      (r = .int .i64 3 ∧ 524288 < p.length ∧ Fr [] w w') ∨
      (r = .int .i64 10 ∧ p.length ≤ 524288 ∧ halfN D.B * 55 < p.length ∧ Fr [] w w') ∨
      (r = .int .i64 0 ∧ p.length ≤ 524288 ∧ p.length ≤ halfN D.B * 55 ∧ ∃ D' at2 t2, putF (gen + 1) life (base (halfN D.B) (gen + 1)) (p.length + 1) ⟨D.B, []⟩ 0 p = (D', at2, t2) ∧
        Wrote w ps pd bb lv tv D ⟨((Dsk.mk D'.B []).write ((gen + 1) % 2) (pad (rootL (gen + 1) p.length))).B, []⟩ (gen + 1) life at2 0 0 t2 w') := by
  have hhalf : halfN D.B ≤ 65536 := by unfold halfN; omega
  refine C_store_Store_Checkpoint_link ?_
  unfold C_store_Store_Checkpoint
  refine ptr_eql und31 (if_f rfl (hx.lenV (gtr (if_p (fun hgt => .inl ⟨rfl, by omega, Fr.refl _ _⟩) (fun hle => ?_)))))
  refine hx.lenV ?_
  refine (half_c h.dk h.blk).use ?_
  rintro _ w0 ⟨rfl, hw0⟩
  rw [hw0]
  refine mul64 (by omega) (gtr (if_p (fun hgt => .inr (.inl ⟨rfl, by omega, by omega, Fr.refl _ _⟩)) (fun hle2 => ?_)))
  refine nilC (fad (ldC_bk h.blk rfl ((dsync_c h.dk).use ?_)))
  rintro _ w1 ⟨rfl, hd1, hF1, hs1⟩
  have h1 : Sk w1 ps pd bb (.slice none 0 0) tv ⟨D.B, []⟩ gen life at' count safe tail := h.redisk hd1 (hF1.mono (fun i hi => .inl (by simp at hi; simp [hi]))) (by simp [fp_nil])
  refine nilC (fad (ldC_bk h1.blk rfl (addw ?_)))
  have eg : IntKind.u32.wrap ((gen : Int) + 1) = ((gen + 1 : Nat) : Int) := by
    rw [IntKind.wrap_u32]; omega
  rw [eg]
  refine nilC (fad (store' h1.blk (by kernel_rfl) (by simp) rfl ?_))
  intro w2 hB2 hF2 hs2
  refine nilC (fad (store' hB2 (by kernel_rfl) (by simp) rfl ?_))
  intro w3 hB3 hF3 hs3
  refine nilC (fad (store' hB3 (by kernel_rfl) (by simp) rfl ?_))
  intro w4 hB4 hF4 hs4
  refine nilC (fad (store' hB4 (by kernel_rfl) (by simp) rfl ?_))
  intro w5 hB5 hF5 hs5
  refine nilC (fad (store' hB5 (by kernel_rfl) (by simp) rfl ?_))
  intro w6 hB6 hF6 hs6
  have hF16 : Fr [ps] w1 w6 := (((hF2.t hF3).t hF4).t hF5).t hF6
  have hnps : ps ∉ fp (.slice none 0 0) := by simp [fp_nil]
  have h6 : Sk w6 ps pd bb (.slice none 0 0) (.slice none 0 0) ⟨D.B, []⟩ (gen + 1) life 0 0 0 [] :=
    ⟨hd1.fr hF16 (by simp; exact fun e => h.s1 e.symm) (by simp; exact fun e => h.s2 e.symm) (by simp [fp_nil]), by simpa using hB6, Own.nil _ _ _, h.s1, h.s2, by simp [fp_nil], by simp [fp_nil], by simp [fp_nil], by simp [fp_nil], by simp [fp_nil], hg, h.l⟩
  have hF06 : Fr [ps, pd] w w6 := (hF1.mono (fun i hi => .inl (by simp at hi; simp [hi]))).trans hF16 (fun i hi => .inl (by simp at hi; simp [hi]))
  have hF06' : Fr (skX ps pd bb lv tv) w w6 := hF06.mono (fun i hi => .inl (skX_mem.2 (by simp at hi; rcases hi with h | h <;> simp [h])))
  have hx6 : Sl w6 1 x p.length (bytes p) := hx.fr1 hF06' hxd
  refine (sput_c h6 hx6 (by simpa using hpb) (by omega) (by simp; omega) (by simp)).use ?_
  rintro _ w7 ⟨rfl, lv7, tv7, D7, at7, t7, hput, h7, hF7, hs7, hL7⟩
  simp only [List.nil_append] at hput hL7
  have sub7 : ∀ i ∈ skX ps pd bb lv7 tv7, i ∈ skX ps pd bb lv tv ∨ w.heap.size ≤ i := fun i hi => (hs7 i hi).elim (fun h0 => .inl (by rcases skX_mem.1 h0 with h | h | h | h | h <;> first | exact skX_mem.2 (by simp [h]) | simp [fp_nil] at h)) (fun h0 => .inr (by have := hF06.size; omega))
  have hF07 : Fr (skX ps pd bb lv tv) w w7 := hF06'.trans hF7 (fun i hi => .inl (by rcases skX_mem.1 hi with h | h | h | h | h <;> first | exact skX_mem.2 (by simp [h]) | simp [fp_nil] at h))
  refine nilC (fad (ldC_bk h7.blk rfl ((dsync_c h7.dk).use ?_)))
  rintro _ w8 ⟨rfl, hd8, hF8, hs8⟩
  have h8 : Sk w8 ps pd bb (.slice none 0 0) tv7 ⟨D7.B, []⟩ (gen + 1) life at7 0 0 t7 := h7.redisk hd8 (hF8.mono (fun i hi => .inl (by simp at hi; simp [hi]))) (by simp [fp_nil])
  have sub8 : ∀ i ∈ skX ps pd bb (.slice none 0 0) tv7, i ∈ skX ps pd bb lv tv ∨ w.heap.size ≤ i := fun i hi => sub7 i (by rcases skX_mem.1 hi with h | h | h | h | h <;> first | exact skX_mem.2 (by simp [h]) | simp [fp_nil] at h)
  have hF08 : Fr (skX ps pd bb lv tv) w w8 := hF07.trans hF8 (fun i hi => .inl (skX_mem.2 (by simp at hi; simp [hi])))
  refine lit' (vs := bytes St.magicN) Try.underlying24 infoB rfl rfl rfl (by omega) (fun v hv => by obtain ⟨_, _, rfl⟩ := List.mem_map.1 hv; rfl) ?_
  intro b w9 hb9 hB9 hF9 _
  refine conv_lit hB9 rfl ?_
  intro w10 hF10 hS10
  have hF810 : Fr [] w8 w10 := hF9.trans hF10 (fun i hi => .inr (by simp at hi; omega))
  have h10 := h8.fresh hF810
  refine nilC (fad (ldC_bk h10.blk rfl ?_))
  refine (putg_c (bs := St.magicN) hS10 (gen + 1) (by decide)).use ?_
  intro v11 w11 hN11
  have hN11' : Row w8 w11 v11 (St.magicN ++ put4 (gen + 1)) := hN11.base hF810
  have h11 := (h8.fresh hN11'.fr).fresh (Fr.drew [] w11)
  refine ⟨fun w' => Bk w' ps 124 [ptr pd, .int .u32 (gen + 1 : Nat), .int .u32 life, tv7, .int .i64 at7, .int .i64 0, .int .i64 0], h11.blk, ?_⟩
  refine nilC (fad (ldC_S (fun w' h => h) rfl (nilC (fad (ldC_S (fun w' h => h) rfl (rem (by omega) ?_))))))
  have e2 : (((gen + 1 : Nat) : Int).tmod 2) = (((gen + 1) % 2 : Nat) : Int) := rfl
  rw [e2]
  refine conv_i64 (by omega) (hx.lenV (conv_u32 (by omega) ?_))
  refine (put_c (hN11'.fresh (Fr.drew [] w11)) p.length (by simp [St.magicN, put4])).use ?_
  intro v12 w12 hN12
  have hrl : (St.magicN ++ put4 (gen + 1)) ++ put4 p.length = rootL (gen + 1) p.length := rfl
  rw [hrl] at hN12
  have h12 := h8.fresh hN12.fr
  refine ⟨h12.blk, ?_⟩
  have hrlen : (rootL (gen + 1) p.length).length = 16 := rfl
  refine (dwrite_c h12.dk ((gen + 1) % 2) hN12.own.sl (by rw [hrlen]; omega) (by
    intro c hc
    rcases List.mem_append.1 hc with hc | hc
    · rcases List.mem_append.1 hc with hc | hc
      · simp [St.magicN] at hc; omega
      · exact St.put4_lt _ c hc
    · exact St.put4_lt _ c hc) (by simp)).use ?_
  rintro _ w13 ⟨_, lv13, hd13, hF13, hs13⟩
  have h13 := h12.redisk hd13 hF13 hs13
  refine ⟨h13.blk, ?_⟩
  refine nilC (fad (ldC_bk h13.blk rfl ((dsync_c h13.dk).use ?_)))
  rintro _ w14 ⟨rfl, hd14, hF14, hs14⟩
  have h14 := h13.redisk hd14 (hF14.mono (fun i hi => .inl (by simp at hi; simp [hi]))) (by simp [fp_nil])
  refine .inr (.inr ⟨rfl, by omega, by omega, D7, at7, t7, hput, .slice none 0 0, tv7, h14, ?_, sub8⟩)
  have hF012 : Fr (skX ps pd bb lv tv) w w12 := hF08.trans hN12.fr (fun i hi => by simp at hi)
  refine (hF012.trans hF13 ?_).trans hF14 (fun i hi => .inl (skX_mem.2 (by simp at hi; simp [hi])))
  intro i hi
  refine .inl (skX_mem.2 ?_)
  simp [fp_nil] at hi
  rcases hi with h | h <;> simp [h]
end
end Go.Proofs.Ytmlaconjeplhpaa
