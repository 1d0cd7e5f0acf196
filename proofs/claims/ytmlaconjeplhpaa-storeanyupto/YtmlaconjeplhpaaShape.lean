/- How things lie in memory: the cells of a value, what it reads as, and the blocks that it stands in. -/
import Derived.Test.YtmlaconjeplhpaaVcInt
set_option linter.unusedVariables false
set_option linter.unusedSimpArgs false
namespace Go.Vc
open Go

theorem Fr.t {X : List Nat} {a b c : World} (h : Fr X a b) (k : Fr X b c) : Fr X a c := h.trans k fun i hi => .inl hi

theorem New.base {w0 w1 w : World} {T : TypeId} {size n : Nat} {v : Value} {l : List Value} (f : Fr [] w0 w1) (h : New w1 w T size v n l) : New w0 w T size v n l :=
  ⟨h.own, f.t h.fr, fun i hi => Nat.le_trans f.size (h.new i hi)⟩
structure Shape (α : Type) where
  size : Nat
  rd : World → List Value → α → List Nat → Prop
  len : ∀ {w cs a F}, rd w cs a F → cs.length = size
  one : ∀ {w cs a F}, rd w cs a F → ∀ u ∈ cs, u.oneCell' = true
  fr : ∀ {w w' cs a F X}, rd w cs a F → Fr X w w' → (∀ i ∈ F, i ∉ X) → rd w' cs a F
  lt : ∀ {w cs a F}, rd w cs a F → ∀ i ∈ F, i < w.heap.size

/-- A whole number of Go's int or int64. -/
def sInt : Shape Int where
  size := 1
  rd _ cs a F := cs = [.int .i64 a] ∧ F = [] ∧ (-9223372036854775808 ≤ a ∧ a ≤ 9223372036854775807)
  len h := by rw [h.1]; rfl
  one h := by rw [h.1]; simp [Value.oneCell']
  fr h _ _ := h
  lt h := by rw [h.2.1]; simp
def sBool : Shape Bool where
  size := 1
  rd _ cs a F := cs = [.bool a] ∧ F = []
  len h := by rw [h.1]; rfl
  one h := by rw [h.1]; simp [Value.oneCell']
  fr h _ _ := h
  lt h := by rw [h.2]; simp
def sByte : Shape Nat where
  size := 1
  rd _ cs a F := cs = [.int .u8 a] ∧ F = [] ∧ a < 256
  len h := by rw [h.1]; rfl
  one h := by rw [h.1]; simp [Value.oneCell']
  fr h _ _ := h
  lt h := by rw [h.2.1]; simp
def Shape.seq {α β : Type} (S : Shape α) (T : Shape β) : Shape (α × β) where
  size := S.size + T.size
  rd w cs a F := ∃ c1 c2 F1 F2, cs = c1 ++ c2 ∧ F = F1 ++ F2 ∧ S.rd w c1 a.1 F1 ∧ T.rd w c2 a.2 F2
  len := by rintro w cs a F ⟨c1, c2, F1, F2, rfl, rfl, h1, h2⟩; rw [List.length_append, S.len h1, T.len h2]
  one := by
    rintro w cs a F ⟨c1, c2, F1, F2, rfl, rfl, h1, h2⟩ u hu
    exact (List.mem_append.1 hu).elim (S.one h1 u) (T.one h2 u)
  fr := by
    rintro w w' cs a F X ⟨c1, c2, F1, F2, rfl, rfl, h1, h2⟩ f hx
    exact ⟨c1, c2, F1, F2, rfl, rfl, S.fr h1 f (fun i hi => hx i (by simp [hi])), T.fr h2 f (fun i hi => hx i (by simp [hi]))⟩
  lt := by
    rintro w cs a F ⟨c1, c2, F1, F2, rfl, rfl, h1, h2⟩ i hi
    exact (List.mem_append.1 hi).elim (S.lt h1 i) (T.lt h2 i)

/-- One behind another, in the cells. -/
def Shape.rows {α : Type} (S : Shape α) (w : World) : List α → List Value → List Nat → Prop
  | [], cs, F => cs = [] ∧ F = []
  | a :: l, cs, F => ∃ c1 c2 F1 F2, cs = c1 ++ c2 ∧ F = F1 ++ F2 ∧ S.rd w c1 a F1 ∧ S.rows w l c2 F2
theorem rows_len {α : Type} (S : Shape α) {w : World} : ∀ {l : List α} {cs : List Value} {F : List Nat}, S.rows w l cs F → cs.length = l.length * S.size
  | [], cs, F, ⟨h, _⟩ => by rw [h]; simp
  | a :: l, cs, F, ⟨c1, c2, F1, F2, hc, hF, h1, h2⟩ => by
    rw [hc, List.length_append, S.len h1, rows_len S h2, List.length_cons, Nat.add_mul]; omega
theorem rows_one {α : Type} (S : Shape α) {w : World} : ∀ {l : List α} {cs : List Value} {F : List Nat}, S.rows w l cs F → ∀ u ∈ cs, u.oneCell' = true
  | [], cs, F, ⟨h, _⟩ => by rw [h]; simp
  | a :: l, cs, F, ⟨c1, c2, F1, F2, hc, hF, h1, h2⟩ => by
    intro u hu
    rw [hc] at hu
    exact (List.mem_append.1 hu).elim (S.one h1 u) (rows_one S h2 u)
theorem rows_fr {α : Type} (S : Shape α) {w w' : World} {X : List Nat} (f : Fr X w w') : ∀ {l : List α} {cs : List Value} {F : List Nat}, S.rows w l cs F → (∀ i ∈ F, i ∉ X) → S.rows w' l cs F
  | [], cs, F, h, _ => h
  | a :: l, cs, F, ⟨c1, c2, F1, F2, hc, hF, h1, h2⟩, hx =>
    ⟨c1, c2, F1, F2, hc, hF, S.fr h1 f (fun i hi => hx i (by rw [hF]; simp [hi])), rows_fr S f h2 (fun i hi => hx i (by rw [hF]; simp [hi]))⟩
theorem rows_lt {α : Type} (S : Shape α) {w : World} : ∀ {l : List α} {cs : List Value} {F : List Nat}, S.rows w l cs F → ∀ i ∈ F, i < w.heap.size
  | [], cs, F, ⟨_, h⟩ => by rw [h]; simp
  | a :: l, cs, F, ⟨c1, c2, F1, F2, hc, hF, h1, h2⟩ => by
    intro u hu
    rw [hF] at hu
    exact (List.mem_append.1 hu).elim (S.lt h1 u) (rows_lt S h2 u)
theorem rows_snoc {α : Type} (S : Shape α) {w : World} {a : α} {c : List Value} {G : List Nat} (ha : S.rd w c a G) : ∀ {l : List α} {cs : List Value} {F : List Nat}, S.rows w l cs F → S.rows w (l ++ [a]) (cs ++ c) (F ++ G)
  | [], cs, F, ⟨h, h'⟩ => by
    rw [h, h']
    exact ⟨c, [], G, [], by simp, by simp, ha, rfl, rfl⟩
  | b :: l, cs, F, ⟨c1, c2, F1, F2, hc, hF, h1, h2⟩ => by
    rw [hc, hF]
    exact ⟨c1, c2 ++ c, F1, F2 ++ G, by simp, by simp, h1, rows_snoc S ha h2⟩
theorem rows_get {α : Type} (S : Shape α) {w : World} : ∀ {l : List α} {cs : List Value} {F : List Nat}, S.rows w l cs F → ∀ (i : Nat) (hi : i < l.length), ∃ G, S.rd w ((cs.drop (i * S.size)).take S.size) l[i] G ∧ ∀ j ∈ G, j ∈ F
  | [], cs, F, h, i, hi => by simp at hi
  | a :: l, cs, F, ⟨c1, c2, F1, F2, hc, hF, h1, h2⟩, i, hi => by
    have hl := S.len h1
    rw [hc, hF]
    cases i with
    | zero =>
      refine ⟨F1, ?_, fun j hj => by simp [hj]⟩
      rw [Nat.zero_mul, List.drop_zero, ← hl, List.take_left]
      exact h1
    | succ i =>
      obtain ⟨G, hG, hs⟩ := rows_get S h2 i (by simpa using hi)
      refine ⟨G, ?_, fun j hj => by simp [hs j hj]⟩
      rw [Nat.add_mul, Nat.one_mul, Nat.add_comm, ← List.drop_drop, ← hl, List.drop_left, hl]
      exact hG
/-- So many in a row. -/
def Shape.rep {α : Type} (S : Shape α) (n : Nat) : Shape (List α) where
  size := n * S.size
  rd w cs l F := l.length = n ∧ S.rows w l cs F
  len h := by rw [rows_len S h.2, h.1]
  one h := rows_one S h.2
  fr h f hx := ⟨h.1, rows_fr S f h.2 hx⟩
  lt h := rows_lt S h.2

theorem Sl.fr1 {X : List Nat} {w w' : World} {size n : Nat} {v : Value} {l : List Value} (h : Sl w size v n l) (f : Fr X w w') (hx : 0 < n → ∀ i ∈ fp v, i ∉ X) : Sl w' size v n l := by
  rcases Nat.eq_zero_or_pos n with h0 | h0
  · obtain ⟨A, c, rfl, hl, hn, hc⟩ := h
    subst h0
    have : l = [] := List.eq_nil_of_length_eq_zero (by omega)
    subst this
    exact ⟨A, c, rfl, hl, hn, fun a _ => Cells.nil _ _⟩
  · exact h.fr f (hx h0)
/-- No longer than its capacity. -/
def capOk : Value → Prop
  | .slice _ n c => n ≤ c
  | _ => True
theorem Own.cap {w : World} {T : TypeId} {size n : Nat} {v : Value} {l : List Value} (h : Own w T size v n l) : capOk v := by
  rcases h.2 with ⟨rfl, rfl⟩ | ⟨g, cap, cur, rfl, hb, hgg, hle, rest⟩
  · exact Nat.le_refl _
  · exact hle
/-- A slice. -/
def Shape.list {α : Type} (S : Shape α) (hs : 0 < S.size) : Shape (List α) where
  size := 1
  rd w cs l F := ∃ v cells G, cs = [v] ∧ capOk v ∧ Sl w S.size v l.length cells ∧ S.rows w l cells G ∧ F = (if l = [] then [] else fp v) ++ G
  len := by rintro w cs l F ⟨v, cells, G, rfl, _⟩; rfl
  one := by
    rintro w cs l F ⟨v, cells, G, rfl, _, ⟨A, c, rfl, _⟩, _⟩ u hu
    rw [List.mem_singleton.1 hu]; rfl
  fr := by
    rintro w w' cs l F X ⟨v, cells, G, rfl, hcap, h1, h2, rfl⟩ f hx
    refine ⟨v, cells, G, rfl, hcap, h1.fr1 f (fun h0 i hi => hx i ?_), rows_fr S f h2 (fun i hi => hx i (by simp [hi])), rfl⟩
    rw [if_neg (by intro e; rw [e] at h0; simp at h0)]
    simp [hi]
  lt := by
    rintro w cs l F ⟨v, cells, G, rfl, hcap, h1, h2, rfl⟩ i hi
    rcases List.mem_append.1 hi with hi | hi
    · split at hi
      · simp at hi
      · rename_i hne
        obtain ⟨A, c, rfl, hl, hn, hc⟩ := h1
        cases A with
        | none => simp [fp_nil] at hi
        | some a =>
          simp [fp_some] at hi
          subst hi
          cases l with
          | nil => exact absurd rfl hne
          | cons x l =>
            cases cells with
            | nil => simp only [List.length_nil, List.length_cons, Nat.add_mul] at hl; omega
            | cons u cells =>
              have := hc a rfl 0 u rfl
              have hlt := World.block_lt_of_cell? w _ this
              have hb : (a.add 0).block = a.block := by unfold Addr.add; split <;> rfl
              rwa [hb] at hlt
    · exact rows_lt S h2 i hi
/-- The same cells, told otherwise. -/
def Shape.map {α β : Type} (S : Shape α) (g : β → α) : Shape β where
  size := S.size
  rd w cs b F := S.rd w cs (g b) F
  len h := S.len h
  one h := S.one h
  fr h := S.fr h
  lt h := S.lt h

theorem rows_ints {w : World} : ∀ {l : List Int} {cs : List Value} {F : List Nat}, sInt.rows w l cs F ↔ cs = l.map (Value.int .i64) ∧ F = [] ∧ ∀ y ∈ l, -9223372036854775808 ≤ y ∧ y ≤ 9223372036854775807
  | [], cs, F => by simp [Shape.rows]
  | a :: l, cs, F => by
    constructor
    · rintro ⟨c1, c2, F1, F2, rfl, rfl, ⟨rfl, rfl, h1⟩, h2⟩
      obtain ⟨rfl, rfl, h3⟩ := rows_ints.1 h2
      refine ⟨rfl, rfl, fun y hy => ?_⟩
      rcases List.mem_cons.1 hy with rfl | hy
      · exact h1
      · exact h3 y hy
    · rintro ⟨rfl, rfl, h⟩
      exact ⟨[.int .i64 a], l.map (Value.int .i64), [], [], rfl, rfl, ⟨rfl, rfl, h a (by simp)⟩, rows_ints.2 ⟨rfl, rfl, fun y hy => h y (by simp [hy])⟩⟩
theorem rows_bytes {w : World} : ∀ {l : List Nat} {cs : List Value} {F : List Nat}, sByte.rows w l cs F ↔ cs = l.map (fun b : Nat => Value.int .u8 (b : Int)) ∧ F = [] ∧ ∀ y ∈ l, y < 256
  | [], cs, F => by simp [Shape.rows]
  | a :: l, cs, F => by
    constructor
    · rintro ⟨c1, c2, F1, F2, rfl, rfl, ⟨rfl, rfl, h1⟩, h2⟩
      obtain ⟨rfl, rfl, h3⟩ := rows_bytes.1 h2
      refine ⟨rfl, rfl, fun y hy => ?_⟩
      rcases List.mem_cons.1 hy with rfl | hy
      · exact h1
      · exact h3 y hy
    · rintro ⟨rfl, rfl, h⟩
      exact ⟨[.int .u8 a], l.map (fun b : Nat => Value.int .u8 (b : Int)), [], [], rfl, rfl, ⟨rfl, rfl, h a (by simp)⟩, rows_bytes.2 ⟨rfl, rfl, fun y hy => h y (by simp [hy])⟩⟩
/-- The value of some cells: an aggregate, or the cell itself. -/
def asV (agg : Bool) (cs : List Value) : Value := bif agg then .agg cs.toArray else cs.headD undef
theorem asV_agg (cs : List Value) : asV true cs = .agg cs.toArray := rfl
theorem asV_one (v : Value) : asV false [v] = v := rfl
theorem fp_one {w : World} {size n : Nat} {v : Value} {l : List Value} (h : Sl w size v n l) : v.oneCell' = true := by
  obtain ⟨A, c, rfl, _⟩ := h; rfl

/-! ### Elements and parts of slices -/
theorem add_add' (a : Addr) (x y : Nat) : (a.add x).add y = a.add (x + y) := by
  unfold Addr.add
  by_cases hx : x = 0
  · by_cases hy : y = 0 <;> simp [hx, hy]
  · by_cases hy : y = 0
    · simp [hx, hy]
    · have : x + y ≠ 0 := by omega
      simp [hx, hy, Nat.add_assoc]
section
variable {w : World} {size n i : Nat} {κ : IntKind} {v : Value} {cells : List Value} {k : Value → Prop}
/-- The address of an element: its cells stand there. -/
theorem ixA (hs : Sl w size v n cells) (hi : i < n) (h : ∀ a : Addr, (∀ b c, v = .slice (some b) n c → a = b.add (i * size)) → [a.block] = fp v → Cells w a ((cells.drop (i * size)).take size) → k (.pointer (some a))) : IAdS size v (.int κ i) k := by
  obtain ⟨A, c, rfl, hl, hn, hc⟩ := hs
  cases A with
  | none => have := (hn rfl).1; omega
  | some a =>
    refine ⟨by omega, by omega, ?_⟩
    simp only [Int.toNat_natCast]
    have hblk : ∀ j, (a.add j).block = a.block := fun j => by unfold Addr.add; split <;> rfl
    refine h (a.add (i * size)) (fun b c' e => by cases e; rfl) (by rw [fp_some, hblk]) ?_
    intro j u hj
    rw [List.getElem?_take] at hj
    split at hj
    · rw [List.getElem?_drop] at hj
      have := hc a rfl _ u hj
      rw [add_add']; exact this
    · cases hj
theorem ix1 {u : Value} (hs : Sl w 1 v n cells) (hi : i < n) (hv : cells[i]? = some u) (h : k u) : IAdS 1 v (.int κ i) fun t => LdC (At w) t k := by
  refine ixA hs hi fun a _ _ hc => ?_
  refine ⟨u, fun w' e => ?_, h⟩
  rw [show w' = w from e]
  have := hc 0 u (by rw [List.getElem?_take, if_pos (by omega), List.getElem?_drop]; simpa using hv)
  rwa [Addr.add_zero'] at this
theorem ix1S {S : World → Prop} {u : Value} (hs : ∀ w', S w' → Sl w' 1 v n cells) (h0 : Sl w 1 v n cells) (hi : i < n) (hv : cells[i]? = some u) (h : k u) : IAdS 1 v (.int κ i) fun t => LdC S t k := by
  refine ixA h0 hi fun a ha _ _ => ?_
  refine ⟨u, fun w' e => ?_, h⟩
  obtain ⟨A, c, rfl, hl, hn, hc⟩ := hs w' e
  cases A with
  | none => have := (hn rfl).1; omega
  | some b =>
    rw [ha b c rfl, Nat.mul_one]
    exact hc b rfl i u hv
theorem ixN (hs : Sl w size v n cells) (hi : i < n) (h : k (.agg ((cells.drop (i * size)).take size).toArray)) : IAdS size v (.int κ i) fun t => LdA (At w) size t k := by
  have hl : ((cells.drop (i * size)).take size).length = size := by
    obtain ⟨A, c, rfl, hl, hn, hc⟩ := hs
    have : (i + 1) * size ≤ n * size := Nat.mul_le_mul_right _ (by omega)
    rw [Nat.add_mul] at this
    simp; omega
  refine ixA hs hi fun a _ _ hc => ?_
  exact ⟨_, hl, fun w' e j u hj => by rw [show w' = w from e]; exact hc j u hj, h⟩
theorem slc_of {A : Option Addr} {c l h : Nat} (hlh : l ≤ h) (hn : h ≤ n) (hc : n ≤ c) (hs : Sl w size (.slice A n c) n cells) :
    Sl w size (.slice (bif Nat.beq c l then A else A.map (·.add (l * size))) (h - l) (c - l)) (h - l) ((cells.drop (l * size)).take ((h - l) * size)) := by
  obtain ⟨A', c', e, hl, h0, hcc⟩ := hs
  cases e
  have hm : h * size ≤ n * size := Nat.mul_le_mul_right _ hn
  have hm2 : l * size ≤ h * size := Nat.mul_le_mul_right _ hlh
  refine ⟨_, _, rfl, ?_, ?_, ?_⟩
  · rw [List.length_take, List.length_drop, Nat.sub_mul]; omega
  · intro e
    have : A = none := by
      cases hb : Nat.beq c l with
      | true => rw [hb] at e; exact e
      | false => rw [hb] at e; cases A with | none => rfl | some a => cases e
    have := h0 this
    omega
  · intro a ha
    cases hb : Nat.beq c l with
    | true =>
      have : c = l := by simpa using hb
      have e0 : h - l = 0 := by omega
      rw [e0]; simp only [Nat.zero_mul, List.take_zero]; exact Cells.nil _ _
    | false =>
      rw [hb] at ha
      cases A with
      | none => cases ha
      | some b =>
        simp only [cond_false, Option.map_some, Option.some.injEq] at ha
        subst ha
        intro j u hj
        rw [List.getElem?_take] at hj
        split at hj
        · rw [List.getElem?_drop] at hj
          have := hcc b rfl _ u hj
          rw [add_add']; exact this
        · cases hj
theorem fp_slc {A : Option Addr} {c l x y size n' : Nat} : ∀ i ∈ fp (.slice (bif Nat.beq c l then A else A.map (·.add (l * size))) x y), i ∈ fp (.slice A n' c) := by
  intro i hi
  cases hb : Nat.beq c l with
  | true => rw [hb, cond_true] at hi; cases A <;> exact hi
  | false =>
    rw [hb] at hi
    cases A with
    | none => exact hi
    | some a =>
      simp only [cond_false, Option.map_some, fp_some, List.mem_singleton] at hi ⊢
      rw [hi]; unfold Addr.add; split <;> rfl
theorem slcLo {l : Nat} (hs : Sl w size v n cells) (hc : capOk v) (hl : l ≤ n)
    (h : ∀ v', Sl w size v' (n - l) ((cells.drop (l * size)).take ((n - l) * size)) → capOk v' → (∀ i ∈ fp v', i ∈ fp v) → k v') : SlcS size v (some (.int κ l)) none none k := by
  obtain ⟨A, c, rfl, rest⟩ := id hs
  refine ⟨by simp, by simp, fun _ => ⟨by omega, by omega⟩, ?_⟩
  simp only [Int.toNat_natCast]
  exact h _ (slc_of hl (Nat.le_refl _) hc hs) (by show n - l ≤ c - l; have : n ≤ c := hc; omega) fp_slc
theorem slcHi {m : Nat} (hs : Sl w size v n cells) (hc : capOk v) (hl : m ≤ n)
    (h : ∀ v', Sl w size v' m (cells.take (m * size)) → capOk v' → (∀ i ∈ fp v', i ∈ fp v) → k v') : SlcS size v none (some (.int κ m)) none k := by
  obtain ⟨A, c, rfl, rest⟩ := id hs
  have hcc : n ≤ c := hc
  refine ⟨by simp, fun _ => ⟨by omega, by omega⟩, by simp, ?_⟩
  have e := slc_of (l := 0) (h := m) (by omega) hl hc hs
  simp only [Nat.zero_mul, List.drop_zero, Nat.sub_zero] at e
  have := h _ e (by show m ≤ c - 0; omega) (by have := @fp_slc A c 0 m (c - 0) size n; simpa using this)
  simpa using this
theorem slcLH {l m : Nat} {κ' : IntKind} (hs : Sl w size v n cells) (hc : capOk v) (hlm : l ≤ m) (hl : m ≤ n)
    (h : ∀ v', Sl w size v' (m - l) ((cells.drop (l * size)).take ((m - l) * size)) → capOk v' → (∀ i ∈ fp v', i ∈ fp v) → k v') : SlcS size v (some (.int κ l)) (some (.int κ' m)) none k := by
  obtain ⟨A, c, rfl, rest⟩ := id hs
  have hcc : n ≤ c := hc
  refine ⟨by simp, fun _ => ⟨by omega, by omega⟩, fun _ => ⟨by omega, by omega⟩, ?_⟩
  simp only [Int.toNat_natCast]
  exact h _ (slc_of hlm hl hc hs) (by show m - l ≤ c - l; omega) fp_slc
theorem Sl.lenV {w : World} {size n : Nat} {v : Value} {l : List Value} {k : Value → Prop} (hs : Sl w size v n l) (h : k (.int .i64 n)) : Len v k := by
  obtain ⟨A, c, rfl, _⟩ := hs; exact h
end

/-! ### A thing built part by part -/
def offs : Nat → List Nat → List (Option (Nat × Nat))
  | _, [] => []
  | o, s :: r => some (o, s) :: offs (o + s) r
theorem fillL_seq (place : Nat → Option (Nat × Nat)) : ∀ (vals : List Value) (sizes : List Nat) (j o : Nat) (done rest : List Value), (List.range' j sizes.length).map place = offs o sizes → vals.map (fun v => v.cells.toList.length) = sizes →
    done.length = o → rest.length = sizes.sum → fillL place (done ++ rest) ((vals.zipIdx j).map fun x => (x.2, x.1)) = some (done ++ vals.flatMap fun v => v.cells.toList)
  | [], sizes, j, o, done, rest, hp, hl, hd, hr => by
    simp only [List.map_nil] at hl
    subst hl
    simp only [List.sum_nil] at hr
    rw [List.eq_nil_of_length_eq_zero hr]
    simp [fillL]
  | v :: vals, sizes, j, o, done, rest, hp, hl, hd, hr => by
    subst hl
    simp only [List.map_cons, List.length_cons, List.range'_succ, offs, List.cons.injEq] at hp
    simp only [List.map_cons, List.sum_cons] at hr
    obtain ⟨hp0, hp1⟩ := hp
    simp only [List.zipIdx_cons, List.map_cons, fillL, hp0]
    have h1 : Nat.beq v.cells.toList.length v.cells.toList.length = true := by simp
    have h2 : Nat.ble (o + v.cells.toList.length) (done ++ rest).length = true := by
      rw [Nat.ble_eq, List.length_append]; omega
    rw [h1, h2]
    simp only [Bool.not_true, Bool.or_self, cond_false]
    have e : splice (done ++ rest) o v.cells.toList = (done ++ v.cells.toList) ++ rest.drop v.cells.toList.length := by
      unfold splice
      rw [← hd, List.take_left, ← List.drop_drop, List.drop_left]
    rw [e, fillL_seq place vals _ (j + 1) (o + v.cells.toList.length) _ _ hp1 rfl (by rw [List.length_append, hd]) (by rw [List.length_drop]; omega)]
    simp
/-- A composite of parts, put into a new variable and read from it. -/
theorem built {P : Program} {T : TypeId} {n b : Nat} {w : World} {z vals : List Value} {sizes : List Nat} {parts : List (Nat × Value)} {k : Value → World → Prop}
    (hp : (placeT P T).map (fun pl => (List.range' 0 sizes.length).map pl) = some (offs 0 sizes)) (hz : (zeroT P T).map (fun z => z.cells.toList.length) = some n) (hn : sizes.sum = n) (hf : fieldsOk P T = true) (hs : sizeT P T = some n) (h0 : 0 < n)
    (hv : parts = (vals.zipIdx 0).map fun x => (x.2, x.1)) (hl : vals.map (fun v => v.cells.toList.length) = sizes) (h1 : ∀ v ∈ vals, ∀ u ∈ v.cells.toList, u.oneCell' = true) (hB : Bk w b T z) (hzl : z.length = n)
    (h : ∀ w', Fr [b] w w' → k (.agg (vals.flatMap fun v => v.cells.toList).toArray) w') : Bld P T parts fun t => DoU P (Instr.storeAt T (.pointer (some ⟨b, 0, none⟩)) t) w fun _ w' => LdA (At w') n (.pointer (some ⟨b, 0, none⟩)) fun r => k r w' := by
  obtain ⟨pl, hpl, hpo⟩ := Option.map_eq_some_iff.1 hp
  obtain ⟨zv, hzv, hzn⟩ := Option.map_eq_some_iff.1 hz
  have hfill := fillL_seq pl vals sizes 0 0 [] zv.cells.toList hpo hl rfl (by omega)
  simp only [List.nil_append] at hfill
  have hlen : (vals.flatMap fun v => v.cells.toList).length = n := by
    rw [List.length_flatMap, hl, hn]
  refine ⟨_, by unfold bldL; rw [hzv, hpl, hv]; exact hfill, hf, ?_⟩
  refine store_all hB hs hzl hlen h0 (fun u hu => by obtain ⟨v, hv, hu⟩ := List.mem_flatMap.1 hu; exact h1 v hv u hu) ?_
  intro w' hB' hF hsz
  refine ldA_bk hB' (by omega) ?_
  have e : (List.take n (List.drop 0 (vals.flatMap fun v => v.cells.toList))) = vals.flatMap fun v => v.cells.toList := by
    rw [List.drop_zero]; exact List.take_of_length_le (by omega)
  rw [e]
  exact h w' hF
end Go.Vc
