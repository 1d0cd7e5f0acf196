/- What each operation of the program's code asks in order to run without failing, and what it yields: definitions, and that they say so rightly. -/
import Derived.Test.YtmlaconjeplhpaaVcBase
set_option linter.unusedVariables false
set_option linter.unusedSimpArgs false
namespace Go.Vc
open Go

def Do (P : Program) (s : Sem Value) (w : World) (k : Value → World → Prop) : Prop := ∃ v w', s.run P w = .ok v w' ∧ k v w'
def DoU (P : Program) (s : Sem Unit) (w : World) (k : Value → World → Prop) : Prop := ∃ w', s.run P w = .ok () w' ∧ k undef w'
/-- A value that does not hang on the world, as long as S holds. -/
def Pu (P : Program) (S : World → Prop) (s : Sem Value) (k : Value → Prop) : Prop := ∃ v, (∀ w', S w' → s.run P w' = .ok v w') ∧ k v

def isC : Operand → Bool | .const _ => true | _ => false
def binSem (op : BinOp) (t : TypeId) (cx cy : Bool) (x y : Value) : Sem Value := do
  eqGuard op t (bif cx then .const undef else .tmp 0) (bif cy then .const undef else .tmp 0) x y
  binOp op t x y
theorem eqGuard_flags (op : BinOp) (t : TypeId) (x y : Operand) (u v : Value) :
    eqGuard op t x y u v = eqGuard op t (bif isC x then .const undef else .tmp 0) (bif isC y then .const undef else .tmp 0) u v := by
  unfold eqGuard
  cases x <;> cases y <;> rfl

/-- Two whole numbers. -/
def BinI (op : BinOp) (κ : IntKind) (a : Int) (κ' : IntKind) (b : Int) (k : Value → Prop) : Prop :=
  match op with
  | .shl => 0 ≤ b ∧ k (.int κ (κ.wrap (a * 2 ^ min b.toNat κ.bits)))
  | .shr => 0 ≤ b ∧ k (.int κ (a.fdiv (2 ^ min b.toNat κ.bits)))
  | .add => κ = κ' ∧ k (.int κ (κ.wrap (a + b)))
  | .sub => κ = κ' ∧ k (.int κ (κ.wrap (a - b)))
  | .mul => κ = κ' ∧ k (.int κ (κ.wrap (a * b)))
  | .quo => κ = κ' ∧ b ≠ 0 ∧ k (.int κ (κ.wrap (a.tdiv b)))
  | .rem => κ = κ' ∧ b ≠ 0 ∧ k (.int κ (a.tmod b))
  | .and => κ = κ' ∧ k (.int κ (κ.wrap (BitVec.ofInt κ.bits a &&& BitVec.ofInt κ.bits b).toNat))
  | .or => κ = κ' ∧ k (.int κ (κ.wrap (BitVec.ofInt κ.bits a ||| BitVec.ofInt κ.bits b).toNat))
  | .xor => κ = κ' ∧ k (.int κ (κ.wrap (BitVec.ofInt κ.bits a ^^^ BitVec.ofInt κ.bits b).toNat))
  | .andNot => κ = κ' ∧ k (.int κ (κ.wrap (BitVec.ofInt κ.bits a &&& ~~~BitVec.ofInt κ.bits b).toNat))
  | .eql => κ = κ' ∧ k (.bool (a == b))
  | .neq => κ = κ' ∧ k (.bool (a != b))
  | .lss => κ = κ' ∧ k (.bool (decide (a < b)))
  | .leq => κ = κ' ∧ k (.bool (decide (a ≤ b)))
  | .gtr => κ = κ' ∧ k (.bool (decide (a > b)))
  | .geq => κ = κ' ∧ k (.bool (decide (a ≥ b)))
def Bin (P : Program) (S : World → Prop) (op : BinOp) (t : TypeId) (cx cy : Bool) (x y : Value) (k : Value → Prop) : Prop :=
  match x, y with
  | .int κ a, .int κ' b => BinI op κ a κ' b k
  | x, y => Pu P S (binSem op t cx cy x y) k
theorem Bin_sound {P : Program} {S : World → Prop} {op : BinOp} {t : TypeId} {xo yo : Operand} {x y : Value} {k : Value → Prop}
    (h : Bin P S op t (isC xo) (isC yo) x y k) : ∃ v, (∀ w, S w → (do eqGuard op t xo yo x y; binOp op t x y : Sem Value).run P w = .ok v w) ∧ k v := by
  unfold Bin at h
  split at h
  · rename_i κ a κ' b
    unfold BinI at h
    cases op <;> simp only at h <;>
      first
        | (obtain ⟨rfl, h0, h⟩ := h; exact ⟨_, fun w _ => by simp [eqGuard, binOp, Op.intDiv, h0], h⟩)
        | (obtain ⟨rfl, h⟩ := h; exact ⟨_, fun w _ => by simp [eqGuard, binOp, Op.intArith, Op.intBits, Op.intCmp], h⟩)
        | (obtain ⟨h0, h⟩ := h; exact ⟨_, fun w _ => by simp [eqGuard, binOp, Op.shift, show ¬ b < 0 by omega], h⟩)
  · obtain ⟨v, hv, hk⟩ := h
    refine ⟨v, fun w hw => ?_, hk⟩
    rw [eqGuard_flags]
    exact hv w hw

def Un (P : Program) (S : World → Prop) (op : UnOp) (x : Value) (k : Value → Prop) : Prop :=
  match op, x with
  | .not, .bool b => k (.bool !b)
  | .neg, .int κ n => k (.int κ (κ.wrap (0 - n)))
  | .xor, .int κ n => k (.int κ (κ.wrap (BitVec.ofInt κ.bits (if κ.signed then -1 else κ.max) ^^^ BitVec.ofInt κ.bits n).toNat))
  | op, x => Pu P S (Op.unary op x) k
theorem Un_sound {P : Program} {S : World → Prop} {op : UnOp} {x : Value} {k : Value → Prop} (h : Un P S op x k) : ∃ v, (∀ w, S w → (Op.unary op x).run P w = .ok v w) ∧ k v := by
  unfold Un at h
  split at h
  · exact ⟨_, fun w _ => by simp [Op.unary], h⟩
  · exact ⟨_, fun w _ => by simp [Op.unary, Op.intArith], h⟩
  · exact ⟨_, fun w _ => by simp [Op.unary, Op.intBits], h⟩
  · exact h

def Pick (c a b : Value) (k : Value → Prop) : Prop := match c with | .bool c => k (bif c then a else b) | _ => False
def NilC (x : Value) (k : Value → Prop) : Prop := match x with | .pointer (some a) => k (.pointer (some a)) | _ => False
def ConvI (κ : IntKind) (x : Value) (k : Value → Prop) : Prop := match x with | .int _ n => k (.int κ (κ.wrap n)) | _ => False
def FAd (off : Nat) (x : Value) (k : Value → Prop) : Prop := match x with | .pointer (some a) => k (.pointer (some (a.add off))) | _ => False
def IAdS (size : Nat) (x i : Value) (k : Value → Prop) : Prop :=
  match x, i with | .slice (some a) len _, .int _ n => 0 ≤ n ∧ n < (len : Int) ∧ k (.pointer (some (a.add (n.toNat * size)))) | _, _ => False
def IAdA (len size : Nat) (x i : Value) (k : Value → Prop) : Prop :=
  match x, i with | .pointer (some a), .int _ n => 0 ≤ n ∧ n < (len : Int) ∧ k (.pointer (some (a.add (n.toNat * size)))) | _, _ => False
def LdC (S : World → Prop) (x : Value) (k : Value → Prop) : Prop := match x with | .pointer (some a) => ∃ v, (∀ w', S w' → w'.cell? a = some v) ∧ k v | _ => False
def LdA (S : World → Prop) (n : Nat) (x : Value) (k : Value → Prop) : Prop :=
  match x with | .pointer (some a) => ∃ l : List Value, l.length = n ∧ (∀ w', S w' → ∀ j v, l[j]? = some v → w'.cell? (a.add j) = some v) ∧ k (.agg l.toArray) | _ => False
def Len (x : Value) (k : Value → Prop) : Prop := match x with | .slice _ n _ => k (.int .i64 n) | _ => False
def LenT (x : Value) (k : Value → Prop) : Prop := match x with | .string s => k (.int .i64 s.size) | _ => False
def Cap (x : Value) (k : Value → Prop) : Prop := match x with | .slice _ _ c => k (.int .i64 c) | _ => False
def Ext (x : Value) (i : Nat) (k : Value → Prop) : Prop := match x with | .tuple vs => (match vs[i]? with | some v => k v | none => False) | _ => False
/-- A part of an aggregate: one cell, or several. -/
def Fld (agg : Bool) (off size : Nat) (x : Value) (k : Value → Prop) : Prop :=
  match x with | .agg cs => bif agg then k (.agg (cs.extract off (off + size))) else (match cs[off]? with | some v => k v | none => False) | _ => False
def IxA (agg : Bool) (len size : Nat) (x i : Value) (k : Value → Prop) : Prop :=
  match i with | .int _ n => 0 ≤ n ∧ n < (len : Int) ∧ Fld agg (n.toNat * size) size x k | _ => False
def IxS (x i : Value) (k : Value → Prop) : Prop :=
  match x, i with | .string s, .int _ n => ∃ h : 0 ≤ n ∧ n.toNat < s.size, k (.int .u8 ((s[n.toNat]'h.2).toNat : Int)) | _, _ => False

def isAggT (P : Program) (t : TypeId) : Bool := match P.underlying t with | some (.struct _) => true | some (.array _ _) => true | _ => false
def sizeT (P : Program) (t : TypeId) : Option Nat := (P.info? t).map (·.size)
def asI : Value → Option Int | .int _ n => some n | _ => none
/-- Bounds of a slice expression, off the values of its operands. -/
def bnds (len cap : Nat) (lo hi mx : Option Value) (k : Nat → Nat → Nat → Prop) : Prop :=
  let m : Option Int := match mx with | some v => asI v | none => some (cap : Int)
  let h : Option Int := match hi with | some v => asI v | none => (match mx with | none => some (len : Int) | some _ => none)
  let l : Option Int := match lo with | some v => asI v | none => some 0
  match m, h, l with
  | some m, some h, some l => (mx.isSome = true → 0 ≤ m ∧ m ≤ (cap : Int)) ∧ (hi.isSome = true → 0 ≤ h ∧ h ≤ m) ∧ (lo.isSome = true → 0 ≤ l ∧ l ≤ h) ∧ k l.toNat h.toNat m.toNat
  | _, _, _ => False
def SlcS (size : Nat) (x : Value) (lo hi mx : Option Value) (k : Value → Prop) : Prop :=
  match x with
  | .slice a len cap => bnds len cap lo hi mx fun l h m => k (.slice (bif Nat.beq m l then a else a.map (·.add (l * size))) (h - l) (m - l))
  | _ => False
def SlcA (n size : Nat) (x : Value) (lo hi mx : Option Value) (k : Value → Prop) : Prop :=
  match x with
  | .pointer (some a) => bnds n n lo hi mx fun l h m => k (.slice (some (bif Nat.beq m l then a else a.add (l * size))) (h - l) (m - l))
  | _ => False
def SlcT (x : Value) (lo hi : Option Value) (k : Value → Prop) : Prop :=
  match x with
  | .string s => bnds s.size s.size lo hi none fun l h _ => k (.string (s.extract l h))
  | _ => False

theorem bnds_run {P : Program} {len cap : Nat} {lo hi mx : Option Value} {k : Nat → Nat → Nat → Prop} (isS : Bool) (h : bnds len cap lo hi mx k) :
    ∃ l h m, (∀ w, (Instr.sliceBounds isS len cap lo hi mx).run P w = .ok (l, h, m) w) ∧ k l h m := by
  unfold bnds at h
  simp only at h
  split at h
  · rename_i m' h' l' e1 e2 e3
    obtain ⟨hm, hh, hl, hk⟩ := h
    refine ⟨_, _, _, ?_, hk⟩
    intro w
    have sb : ∀ (v : Value) (n : Int) (y : Nat) (c : BoundsCode), asI v = some n → 0 ≤ n → n ≤ (y : Int) → (Instr.sliceBound v y c).run P w = .ok n.toNat w := by
      intro v n y c hv h0 h1
      cases v <;> simp [asI] at hv
      subst hv
      simp [Instr.sliceBound, asIntOf, h0, h1]
    unfold Instr.sliceBounds
    cases mx with
    | none =>
      simp only at e1
      obtain rfl := Option.some.inj e1
      cases hi with
      | none =>
        simp only at e2
        obtain rfl := Option.some.inj e2
        cases lo with
        | none =>
          simp only at e3
          obtain rfl := Option.some.inj e3
          simp
        | some lv =>
          simp only at e3
          obtain ⟨l0, l1⟩ := hl rfl
          simp [sb lv l' len _ e3 l0 l1]
      | some hv =>
        simp only at e2
        obtain ⟨h0, h1⟩ := hh rfl
        have hb := sb hv h' cap (if isS then .sliceAcap else .sliceAlen) e2 h0 h1
        cases lo with
        | none =>
          simp only at e3
          obtain rfl := Option.some.inj e3
          simp [hb]
        | some lv =>
          simp only at e3
          obtain ⟨l0, l1⟩ := hl rfl
          have := sb lv l' h'.toNat .sliceB e3 l0 (by omega)
          simp [hb, this]
    | some mv =>
      simp only at e1
      obtain ⟨m0, m1⟩ := hm rfl
      have hb := sb mv m' cap (if isS then .slice3Acap else .slice3Alen) e1 m0 m1
      cases hi with
      | none => simp at e2
      | some hv =>
        simp only at e2
        obtain ⟨h0, h1⟩ := hh rfl
        have hb2 := sb hv h' m'.toNat .slice3B e2 h0 (by omega)
        cases lo with
        | none =>
          simp only at e3
          obtain rfl := Option.some.inj e3
          simp [hb, hb2]
        | some lv =>
          simp only at e3
          obtain ⟨l0, l1⟩ := hl rfl
          have := sb lv l' h'.toNat .slice3C e3 l0 (by omega)
          simp [hb, hb2, this]
  · exact h.elim

theorem loadCells_list {P : Program} {w : World} {a : Addr} : ∀ (l : List Value) (i : Nat) (acc : Array Value), (∀ j v, l[j]? = some v → w.cell? (a.add (i + j)) = some v) →
    (loadCellsFrom a i l.length acc).run P w = .ok (acc ++ l.toArray) w
  | [], i, acc, h => by simp [loadCellsFrom]
  | v :: l, i, acc, h => by
    have h0 := h 0 v (by simp)
    simp only [Nat.add_zero] at h0
    have := loadCells_list (P := P) l (i + 1) (acc.push v) (fun j u hu => by have := h (j + 1) u (by simpa using hu); rw [show i + 1 + j = i + (j + 1) by omega]; exact this)
    simp only [List.length_cons, loadCellsFrom, Sem.run_bind, run_load, h0, Result.andThen_ok, this]
    simp

theorem run_isAgg {P : Program} (t : TypeId) {d : TypeDesc} (h : P.underlying t = some d) (w : World) : (isAgg t).run P w = .ok (isAggT P t) w := by
  unfold isAgg isAggT
  cases d <;> simp [underlying, h]

theorem run_sizeOf {P : Program} (t : TypeId) {n : Nat} (h : sizeT P t = some n) (w : World) : (sizeOf t).run P w = .ok n w := by
  unfold sizeT at h
  obtain ⟨i, hi, rfl⟩ := Option.map_eq_some_iff.1 h
  simp [sizeOf, typeInfo, hi]

def Ld (P : Program) (S : World → Prop) (t : TypeId) (x : Value) (k : Value → Prop) : Prop :=
  match P.underlying t with
  | some (.struct _) => (match sizeT P t with | some n => LdA S n x k | none => False)
  | some (.array _ _) => (match sizeT P t with | some n => LdA S n x k | none => False)
  | some _ => LdC S x k
  | none => False
theorem LdA_sound {P : Program} {S : World → Prop} {t : TypeId} {n : Nat} {x : Value} {k : Value → Prop} {d : TypeDesc} (hd : P.underlying t = some d) (ha : isAggT P t = true) (hn : sizeT P t = some n) (h : LdA S n x k) :
    ∃ v, (∀ w, S w → (Instr.loadAt t x).run P w = .ok v w) ∧ k v := by
  unfold LdA at h
  split at h
  · rename_i a
    obtain ⟨l, hl, hc, hk⟩ := h
    refine ⟨_, fun w hw => ?_, hk⟩
    have := loadCells_list (P := P) (w := w) (a := a) l 0 #[] (fun j v hj => by rw [Nat.zero_add]; exact hc w hw j v hj)
    simp only [Instr.loadAt, Instr.sureAddr, loadVar, Sem.run_bind, Sem.run_pure, Result.andThen_ok, run_isAgg t hd, ha, if_true, run_sizeOf t hn, loadCells]
    rw [← hl, this]
    simp
  · exact h.elim
theorem Ld_sound {P : Program} {S : World → Prop} {t : TypeId} {x : Value} {k : Value → Prop} (h : Ld P S t x k) : ∃ v, (∀ w, S w → (Instr.loadAt t x).run P w = .ok v w) ∧ k v := by
  unfold Ld at h
  split at h
  · rename_i hd
    split at h
    · exact LdA_sound hd (by simp [isAggT, hd]) (by assumption) h
    · exact h.elim
  · rename_i hd
    split at h
    · exact LdA_sound hd (by simp [isAggT, hd]) (by assumption) h
    · exact h.elim
  · rename_i d hs ha hd
    have hagg : isAggT P t = false := by
      unfold isAggT
      rw [hd]
      split
      · rename_i e; exact absurd (Option.some.inj e) (hs _)
      · rename_i e; exact absurd (Option.some.inj e) (ha _ _)
      · rfl
    unfold LdC at h
    split at h
    · obtain ⟨v, hv, hk⟩ := h
      refine ⟨v, fun w hw => ?_, hk⟩
      simp [Instr.loadAt, Instr.sureAddr, loadVar, run_isAgg t hd, hagg, hv w hw]
    · exact h.elim
  · exact h.elim

/-! ### Building an aggregate -/
def splice (cs : List Value) (off : Nat) (l : List Value) : List Value := cs.take off ++ l ++ cs.drop (off + l.length)
def fillL (place : Nat → Option (Nat × Nat)) : List Value → List (Nat × Value) → Option (List Value)
  | cs, [] => some cs
  | cs, (i, v) :: rest =>
    match place i with
    | none => none
    | some (off, size) => bif !(Nat.beq v.cells.toList.length size) || !(Nat.ble (off + size) cs.length) then none else fillL place (splice cs off v.cells.toList) rest
def placeT (P : Program) (t : TypeId) : Option (Nat → Option (Nat × Nat)) :=
  match P.underlying t with
  | some (.struct fields) => some fun i => (fields.toList[i]?).bind fun f => (sizeT P f.type).map fun s => (f.offset, s)
  | some (.array _ e) => (sizeT P e).map fun s => fun i => some (i * s, s)
  | _ => none
def zeroT (P : Program) (t : TypeId) : Option Value := (P.info? t).bind (·.zero)
def bldL (P : Program) (t : TypeId) (parts : List (Nat × Value)) : Option (List Value) :=
  match zeroT P t, placeT P t with
  | some z, some pl => fillL pl z.cells.toList parts
  | _, _ => none
def fieldsOk (P : Program) (t : TypeId) : Bool := match P.underlying t with | some (.struct f) => f.toList.all fun x => (sizeT P x.type).isSome | _ => true
def Bld (P : Program) (t : TypeId) (parts : List (Nat × Value)) (k : Value → Prop) : Prop := ∃ l, bldL P t parts = some l ∧ fieldsOk P t = true ∧ k (.agg l.toArray)

theorem fold_splice (off : Nat) : ∀ (l : List Value) (j : Nat) (cs : Array Value), off + j + l.length ≤ cs.size →
    ((l.zipIdx j).foldl (fun cs (c, j) => cs.setIfInBounds (off + j) c) cs).toList = splice cs.toList (off + j) l
  | [], j, cs, h => by simp [splice]
  | c :: l, j, cs, h => by
    simp only [List.zipIdx_cons, List.foldl_cons]
    simp only [List.length_cons] at h
    rw [fold_splice off l (j + 1) _ (by simp; omega)]
    unfold splice
    simp only [Array.toList_setIfInBounds, List.length_cons]
    rw [List.drop_set_of_lt (by omega), ← Nat.add_assoc]
    rw [show off + j + 1 + l.length = off + j + (l.length + 1) by omega]
    congr 1
    rw [List.take_succ_eq_append_getElem (by simp; omega)]
    simp [List.take_set_of_le]

theorem fill_list (place : Nat → Option (Nat × Nat)) : ∀ (parts : List (Nat × Value)) (cs : Array Value) (l : List Value), fillL place cs.toList parts = some l → Instr.fill place cs parts = some l.toArray
  | [], cs, l, h => by simp only [fillL, Option.some.injEq] at h; subst h; simp [Instr.fill]
  | (i, v) :: rest, cs, l, h => by
    simp only [fillL] at h
    simp only [Instr.fill]
    split at h
    · cases h
    · rename_i off size hp
      simp only [hp]
      have hc : (!(Nat.beq v.cells.toList.length size) || !(Nat.ble (off + size) cs.toList.length)) = false := by
        cases hb : (!(Nat.beq v.cells.toList.length size) || !(Nat.ble (off + size) cs.toList.length)) with
        | false => rfl
        | true => rw [hb] at h; cases h
      rw [hc] at h
      simp only [cond_false] at h
      rw [Bool.or_eq_false_iff] at hc
      have h1 : v.cells.size = size := by have := hc.1; simp only [Bool.not_eq_false', Nat.beq_eq_true_eq] at this; simpa using this
      have h2 : off + size ≤ cs.size := by have := hc.2; simp only [Bool.not_eq_false', Nat.ble_eq] at this; simpa using this
      rw [if_neg (by simp [h1]; omega)]
      refine fill_list place rest _ l ?_
      have hz : (v.cells.zipIdx.foldl (fun cs (c, j) => cs.setIfInBounds (off + j) c) cs).toList = splice cs.toList off v.cells.toList := by
        have := fold_splice off v.cells.toList 0 cs (by simp; omega)
        rw [Nat.add_zero] at this
        rw [← this, ← Array.foldl_toList, Array.toList_zipIdx]
      rw [hz]
      exact h

theorem Bld_sound {P : Program} {t : TypeId} {parts : Array (Nat × Value)} {k : Value → Prop} (h : Bld P t parts.toList k) : ∃ v, (∀ w, (Instr.build t parts).run P w = .ok v w) ∧ k v := by
  obtain ⟨l, hl, hs0, hk⟩ := h
  have hs : ∀ f, P.underlying t = some (.struct f) → ∀ x ∈ f.toList, (sizeT P x.type).isSome = true := by
    intro f hf x hx
    unfold fieldsOk at hs0
    rw [hf] at hs0
    simp only [List.all_eq_true] at hs0
    exact hs0 x hx
  refine ⟨_, fun w => ?_, hk⟩
  unfold bldL at hl
  split at hl
  · rename_i z pl hz hp
    unfold zeroT at hz
    obtain ⟨i, hi, hz⟩ := Option.bind_eq_some_iff.1 hz
    unfold placeT at hp
    split at hp
    · rename_i fields hu
      obtain rfl := Option.some.inj hp
      have hm : ∀ (l : List Field) (w : World), (∀ x ∈ l, (sizeT P x.type).isSome = true) → (l.mapM (fun f : Go.Field => (do pure (f.offset, ← sizeOf f.type) : Sem (Nat × Nat)))).run P w = .ok (l.map fun f : Go.Field => (f.offset, (sizeT P f.type).getD 0)) w := by
        intro l
        induction l with
        | nil => intro w _; simp
        | cons f l ih =>
          intro w hx
          obtain ⟨n, hn⟩ := Option.isSome_iff_exists.1 (hx f (by simp))
          rw [List.mapM_cons]
          simp only [Sem.run_bind, run_sizeOf _ hn, Result.andThen_ok, Sem.run_pure, ih w (fun x hx' => hx x (by simp [hx'])), hn, List.map_cons, Option.getD_some]
      have hm' : (fields.mapM (fun f : Go.Field => (do pure (f.offset, ← sizeOf f.type) : Sem (Nat × Nat)))).run P w = .ok (fields.map fun f : Go.Field => (f.offset, (sizeT P f.type).getD 0)) w := by
        rw [Array.mapM_eq_mapM_toList]
        simp only [Sem.run_map, hm fields.toList w (hs fields hu), Result.andThen_ok]
        congr 1
        apply Array.ext'
        simp
      have hpl : (fun i : Nat => (fields.toList[i]?).bind fun f : Go.Field => (sizeT P f.type).map fun s => (f.offset, s)) = fun i : Nat => (fields.map fun f : Go.Field => (f.offset, (sizeT P f.type).getD 0))[i]? := by
        funext i
        simp only [Array.getElem?_map, Array.getElem?_toList]
        cases hf : fields[i]? with
        | none => simp
        | some f =>
          obtain ⟨n, hn⟩ := Option.isSome_iff_exists.1 (hs fields hu f (by simpa using Array.mem_of_getElem? hf))
          simp [hn]
      rw [hpl] at hl
      have := fill_list _ parts.toList z.cells l hl
      simp [-bind_pure_comp, -Array.getElem?_map, Instr.build, zeroValue, typeInfo, hi, hz, underlying, hu, hm', this]
    · rename_i n e hu
      obtain ⟨s, hs', rfl⟩ := Option.map_eq_some_iff.1 hp
      have := fill_list _ parts.toList z.cells l hl
      simp [Instr.build, zeroValue, typeInfo, hi, hz, underlying, hu, run_sizeOf e hs', this]
    · cases hp
  · cases hl

end Go.Vc
