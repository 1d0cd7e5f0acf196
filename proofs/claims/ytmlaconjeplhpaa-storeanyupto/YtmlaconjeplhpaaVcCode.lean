/- The condition for a whole body of code, read off the code; and that it suffices. -/
import Derived.Test.YtmlaconjeplhpaaVcOps
set_option linter.unusedVariables false
set_option linter.unusedSimpArgs false
namespace Go.Vc
open Go

/-! ### What is known of the temporaries -/
structure Env where
  m : List (Nat × Value)
  n : Nat
  ds : List Nat
def getL : List (Nat × Value) → Nat → Option Value
  | [], _ => none
  | (s, v) :: r, t => bif Nat.beq s t then some v else getL r t
def Env.ev (E : Env) : Operand → Option Value
  | .tmp t => getL E.m t
  | .const v => some v
  | .global g => some (.pointer (some ⟨g, 0, none⟩))
  | .func f => some (.func (.func f) #[] #[])
def Env.v (E : Env) (x : Operand) : Value := match E.ev x with | some v => v | none => undef
def Env.put (E : Env) (d : Option Nat) (v : Value) : Env :=
  match d with
  | none => E
  | some d => bif Nat.blt d E.n then { E with m := (d, v) :: E.m } else E
def mkD (r : Nat) : Deferred := { target := .collected r, args := #[] }
structure Sim (E : Env) (a : Act) : Prop where
  m : ∀ t v, getL E.m t = some v → a.tmps.getD t undef = v
  n : a.tmps.size = E.n
  ds : a.defers = E.ds.map mkD

theorem Sim.ev {E : Env} {a : Act} (h : Sim E a) {x : Operand} {v : Value} (hx : E.ev x = some v) : a.eval x = v := by
  cases x with
  | tmp t => exact h.m t v hx
  | _ => exact Option.some.inj hx
theorem Sim.put {E : Env} {a : Act} (h : Sim E a) (d : Option Nat) (v : Value) : Sim (E.put d v) (a.put d v) := by
  cases d with
  | none => exact h
  | some d =>
    unfold Env.put
    simp only
    cases hb : Nat.blt d E.n with
    | false =>
      have hd : ¬ d < E.n := fun hl => by
        have h2 : Nat.blt d E.n = true := by rw [Nat.blt_eq]; exact hl
        rw [hb] at h2; cases h2
      refine ⟨fun t u hu => ?_, by simp [Act.put]; exact h.n, h.ds⟩
      rw [← h.m t u hu]
      simp only [Act.put, Array.getD_eq_getD_getElem?]
      rw [Array.getElem?_setIfInBounds]
      split
      · subst_vars
        rw [if_neg (by rw [h.n]; exact hd), Array.getElem?_eq_none (by rw [h.n]; omega)]
      · rfl
    | true =>
      have hd : d < E.n := by rw [Nat.blt_eq] at hb; exact hb
      refine ⟨fun t u hu => ?_, by simp [Act.put]; exact h.n, h.ds⟩
      simp only [cond_true, getL] at hu
      simp only [Act.put, Array.getD_eq_getD_getElem?]
      rw [Array.getElem?_setIfInBounds]
      cases hq : Nat.beq d t with
      | true =>
        rw [hq] at hu
        have : d = t := by simpa using hq
        subst this
        simp only [cond_true, Option.some.injEq] at hu
        rw [if_pos rfl, if_pos (by rw [h.n]; exact hd)]
        simpa using hu
      | false =>
        rw [hq] at hu
        have hne : d ≠ t := by intro e; subst e; simp at hq
        rw [if_neg hne]
        have := h.m t u hu
        rw [Array.getD_eq_getD_getElem?] at this
        exact this
/-- What is forgotten does no harm. -/
theorem Sim.sub {E E' : Env} {a : Act} (h : Sim E a) (hm : ∀ t v, getL E'.m t = some v → getL E.m t = some v) (hn : E'.n = E.n) (hd : E'.ds = E.ds) : Sim E' a :=
  ⟨fun t v ht => h.m t v (hm t v ht), h.n.trans hn.symm, h.ds.trans (by rw [hd])⟩
def keepL (m : List (Nat × Value)) : List Nat → List (Nat × Value)
  | [] => []
  | t :: ts => match getL m t with | some v => (t, v) :: keepL m ts | none => keepL m ts
theorem getL_keepL (m : List (Nat × Value)) : ∀ (ts : List Nat) (t : Nat) (v : Value), getL (keepL m ts) t = some v → getL m t = some v
  | [], t, v, h => by simp [keepL, getL] at h
  | s :: ts, t, v, h => by
    unfold keepL at h
    split at h
    · rename_i u hu
      simp only [getL] at h
      cases hq : Nat.beq s t with
      | true =>
        rw [hq] at h
        have : s = t := by simpa using hq
        subst this
        simp only [cond_true, Option.some.injEq] at h
        subst h
        exact hu
      | false => rw [hq] at h; exact getL_keepL m ts t v h
    · exact getL_keepL m ts t v h
def Env.keep (E : Env) (L : List Nat) : Env := { E with m := keepL E.m L }
theorem Sim.keep {E : Env} {a : Act} (h : Sim E a) (L : List Nat) : Sim (E.keep L) a := h.sub (fun t v => getL_keepL E.m L t v) rfl rfl

/-! ### One operation -/
def Env.has (E : Env) (o : Oper) : Bool := o.op.operands.toList.all fun x => (E.ev x).isSome
theorem all_toArray {α : Type} (p : α → Bool) (l : List α) : l.toArray.toList.all p = l.all p := rfl
theorem Sim.has {E : Env} {a : Act} (h : Sim E a) {o : Oper} (hh : E.has o = true) : ∀ x ∈ o.op.operands, a.eval x = E.v x := by
  intro x hx
  unfold Env.has at hh
  rw [List.all_eq_true] at hh
  have := hh x (by simpa using hx)
  obtain ⟨v, hv⟩ := Option.isSome_iff_exists.1 this
  rw [h.ev hv]
  simp [Env.v, hv]

def intT (P : Program) (t : TypeId) : Option IntKind := match P.underlying t with | some (.int k) => some k | _ => none
theorem intT_some {P : Program} {t : TypeId} {κ : IntKind} (h : intT P t = some κ) : P.underlying t = some (.int κ) := by
  unfold intT at h
  split at h
  · rename_i k hk; rw [hk, Option.some.inj h]
  · cases h
def pureOp (P : Program) (o : Oper) : Bool :=
  match o.op with
  | .move _ | .assign _ | .pick .. | .nilCheck _ | .binOp .. | .unOp .. | .fieldAddr .. | .field .. | .indexAddr .. | .index .. | .slice .. | .extract .. | .build .. | .makeFunc .. | .load .. => true
  | .convert src dst _ => (intT P src).isSome && (intT P dst).isSome
  | .call { callee := .builtin .len, .. } | .call { callee := .builtin .cap, .. } | .call { callee := .builtin .min, .. } | .call { callee := .builtin .max, .. } => true
  | _ => false

def VPure (P : Program) (S : World → Prop) (o : Oper) (ρ : Operand → Value) (k : Value → Prop) : Prop :=
  match o.op with
  | .move x => k (ρ x)
  | .assign x => k (ρ x)
  | .pick c a b => Pick (ρ c) (ρ a) (ρ b) k
  | .nilCheck x => NilC (ρ x) k
  | .binOp op t x y _ => Bin P S op t (isC x) (isC y) (ρ x) (ρ y) k
  | .unOp op _ x => Un P S op (ρ x) k
  | .convert src dst x => (match intT P src, intT P dst with | some _, some κ => ConvI κ (ρ x) k | _, _ => False)
  | .fieldAddr s x f =>
    (match P.underlying s with
     | some (.struct fs) => (match fs.toList[f]? with
       | some fd => (match sizeT P fd.type with | some (_ + 1) => FAd fd.offset (ρ x) k | _ => False)
       | none => False)
     | _ => False)
  | .field s x f =>
    (match P.underlying s with
     | some (.struct fs) => (match fs.toList[f]? with
       | some fd => (match P.underlying fd.type, sizeT P fd.type with | some _, some n => Fld (isAggT P fd.type) fd.offset n (ρ x) k | _, _ => False)
       | none => False)
     | _ => False)
  | .indexAddr t x i =>
    (match P.underlying t with
     | some (.slice e) => (match sizeT P e with | some n => IAdS n (ρ x) (ρ i) k | none => False)
     | some (.array len e) => (match sizeT P e with | some n => IAdA len n (ρ x) (ρ i) k | none => False)
     | _ => False)
  | .index t x i =>
    (match P.underlying t with
     | some (.array len e) => (match P.underlying e, sizeT P e with | some _, some n => IxA (isAggT P e) len n (ρ x) (ρ i) k | _, _ => False)
     | some .string => IxS (ρ x) (ρ i) k
     | _ => False)
  | .slice t x lo hi mx =>
    (match P.underlying t with
     | some (.slice e) => (match sizeT P e with | some n => SlcS n (ρ x) (lo.map ρ) (hi.map ρ) (mx.map ρ) k | none => False)
     | some (.array len e) => (match sizeT P e with | some n => SlcA len n (ρ x) (lo.map ρ) (hi.map ρ) (mx.map ρ) k | none => False)
     | some .string => (match mx with | none => SlcT (ρ x) (lo.map ρ) (hi.map ρ) k | some _ => False)
     | _ => False)
  | .extract x i => Ext (ρ x) i k
  | .build t parts => Bld P t (parts.toList.map fun p => (p.1, ρ p.2)) k
  | .makeFunc fn first captured => k (.func fn (first.toList.map ρ).toArray (captured.toList.map ρ).toArray)
  | .load t x => Ld P S t (ρ x) k
  | .call c =>
    (match c.callee with
     | .builtin .len => (match c.argTypes.toList, c.args.toList with
       | t :: _, x :: _ => (match P.underlying t with
         | some (.slice _) => Len (ρ x) k
         | some .string => LenT (ρ x) k
         | some (.array n _) => k (.int .i64 n)
         | _ => False)
       | _, _ => False)
     | .builtin .cap => Pu P S (Builtin.cap_ c.argTypes o.type (c.args.toList.map ρ).toArray) k
     | .builtin .min => Pu P S (Builtin.min_ c.argTypes o.type (c.args.toList.map ρ).toArray) k
     | .builtin .max => Pu P S (Builtin.max_ c.argTypes o.type (c.args.toList.map ρ).toArray) k
     | _ => False)
  | _ => False

theorem run_underlying' {P : Program} {t : TypeId} {d : TypeDesc} (h : P.underlying t = some d) (w : World) : (underlying t).run P w = .ok d w := by simp [underlying, h]

theorem part_run {P : Program} {t : TypeId} {cs : Array Value} {off n : Nat} {d : TypeDesc} (hd : P.underlying t = some d) (hn : sizeT P t = some n) {k : Value → Prop} (h : Fld (isAggT P t) off n (.agg cs) k) :
    ∃ v, (∀ w, (part t cs off).run P w = .ok v w) ∧ k v := by
  unfold Fld at h
  simp only at h
  cases ha : isAggT P t with
  | true =>
    rw [ha] at h
    exact ⟨_, fun w => by simp [part, run_isAgg t hd, ha, run_sizeOf t hn], h⟩
  | false =>
    rw [ha] at h
    simp only [cond_false] at h
    split at h
    · rename_i v hv
      exact ⟨v, fun w => by simp [part, run_isAgg t hd, ha, hv], h⟩
    · exact h.elim

theorem VPure_sound {P : Program} {S : World → Prop} {o : Oper} {ρ : Operand → Value} {k : Value → Prop} (h : VPure P S o ρ k) :
    ∃ v, (∀ w, S w → (execOp ρ o).run P w = .ok (.value v) w) ∧ k v := by
  have lift : ∀ {s : Sem Value} {k : Value → Prop}, (∃ v, (∀ w, S w → s.run P w = .ok v w) ∧ k v) → ∃ v, (∀ w, S w → (do pure (Next.value (← s)) : Sem Next).run P w = .ok (.value v) w) ∧ k v :=
    fun ⟨v, hv, hk⟩ => ⟨v, fun w hw => by simp [hv w hw], hk⟩
  unfold VPure at h
  unfold execOp
  split at h <;> rename_i ho <;> simp only [ho]
  · exact ⟨_, fun w _ => rfl, h⟩
  · exact ⟨_, fun w _ => rfl, h⟩
  · unfold Pick at h
    split at h
    · rename_i c hc
      refine ⟨_, fun w _ => ?_, h⟩
      cases c <;> simp [hc, asBool]
    · exact h.elim
  · unfold NilC at h
    split at h
    · rename_i a ha
      exact ⟨_, fun w _ => by simp [ha], h⟩
    · exact h.elim
  · exact lift (Bin_sound h)
  · exact lift (Un_sound h)
  · split at h
    · rename_i κ0 κ h1 h2
      unfold ConvI at h
      split at h
      · rename_i n hx
        refine ⟨_, fun w _ => ?_, h⟩
        have e1 := intT_some h1
        have e2 := intT_some h2
        simp [convert, run_underlying' e1, run_underlying' e2, hx, Conv.intToInt]
      · exact h.elim
    · exact h.elim
  · split at h
    · rename_i fs hu
      split at h
      · rename_i fd hf
        split at h
        · rename_i n hn
          unfold FAd at h
          split at h
          · rename_i a ha
            refine ⟨_, fun w _ => ?_, h⟩
            have hf' := hf
            rw [Array.getElem?_toList] at hf'
            simp [Instr.fieldAt, run_underlying' hu, hf', Instr.sureAddr, ha, fieldPlace, run_sizeOf _ hn]
          · exact h.elim
        · exact h.elim
      · exact h.elim
    · exact h.elim
  · split at h
    · rename_i fs hu
      split at h
      · rename_i fd hf
        split at h
        · rename_i d n hd hn
          generalize hx : ρ _ = x at h ⊢
          cases x with
          | agg cs =>
            obtain ⟨v, hv, hk⟩ := part_run hd hn h
            have hf' := hf
            rw [Array.getElem?_toList] at hf'
            exact ⟨v, fun w _ => by simp [Instr.field, run_underlying' hu, hf', asAgg, hv w], hk⟩
          | _ => exact (show False from h).elim
        · exact h.elim
      · exact h.elim
    · exact h.elim
  · split at h
    · rename_i e hu
      split at h
      · rename_i n hn
        unfold IAdS at h
        split at h
        · rename_i a len cap κ i hx hi
          obtain ⟨h0, h1, hk⟩ := h
          exact ⟨_, fun w _ => by simp [Instr.indexAt, hx, hi, asIntOf, run_underlying' hu, h0, h1, run_sizeOf _ hn], hk⟩
        · exact h.elim
      · exact h.elim
    · rename_i len e hu
      split at h
      · rename_i n hn
        unfold IAdA at h
        split at h
        · rename_i a κ i hx hi
          obtain ⟨h0, h1, hk⟩ := h
          exact ⟨_, fun w _ => by simp [Instr.indexAt, hx, hi, asIntOf, run_underlying' hu, h0, h1, run_sizeOf _ hn, Instr.sureAddr], hk⟩
        · exact h.elim
      · exact h.elim
    · exact h.elim
  · split at h
    · rename_i len e hu
      split at h
      · rename_i d n hd hn
        unfold IxA at h
        split at h
        · rename_i κ i hi
          obtain ⟨h0, h1, h⟩ := h
          generalize hx : ρ _ = x at h ⊢
          cases x with
          | agg cs =>
            obtain ⟨v, hv, hk⟩ := part_run hd hn h
            exact ⟨v, fun w _ => by simp [Instr.index, run_underlying' hu, hi, asIntOf, h0, h1, run_sizeOf _ hn, hv w], hk⟩
          | _ => exact (show False from h).elim
        · exact h.elim
      · exact h.elim
    · rename_i hu
      unfold IxS at h
      split at h
      · rename_i s κ i hx hi
        obtain ⟨⟨h0, h1⟩, hk⟩ := h
        refine ⟨_, fun w _ => ?_, hk⟩
        simp [Instr.index, run_underlying' hu, hx, hi, asIntOf, h0, h1]
      · exact h.elim
    · exact h.elim
  · split at h
    · rename_i e hu
      split at h
      · rename_i n hn
        unfold SlcS at h
        split at h
        · rename_i a len cap hx
          obtain ⟨l, hh, m, hb, hk⟩ := bnds_run (P := P) true h
          refine ⟨_, fun w _ => ?_, hk⟩
          cases hq : Nat.beq m l with
          | true => have : m = l := by simpa using hq
                    simp [Instr.sliceAt, Instr.slice, run_underlying' hu, hx, hb w, run_sizeOf _ hn, this]
          | false => have : m ≠ l := by intro e; subst e; simp at hq
                     simp [Instr.sliceAt, Instr.slice, run_underlying' hu, hx, hb w, run_sizeOf _ hn, this]
        · exact h.elim
      · exact h.elim
    · rename_i len e hu
      split at h
      · rename_i n hn
        unfold SlcA at h
        split at h
        · rename_i a hx
          obtain ⟨l, hh, m, hb, hk⟩ := bnds_run (P := P) false h
          refine ⟨_, fun w _ => ?_, hk⟩
          cases hq : Nat.beq m l with
          | true => have : m = l := by simpa using hq
                    simp [Instr.sliceAt, run_underlying' hu, hx, hb w, run_sizeOf _ hn, this, Instr.sureAddr]
          | false => have : m ≠ l := by intro e; subst e; simp at hq
                     simp [Instr.sliceAt, run_underlying' hu, hx, hb w, run_sizeOf _ hn, this, Instr.sureAddr]
        · exact h.elim
      · exact h.elim
    · rename_i hu
      split at h
      · unfold SlcT at h
        split at h
        · rename_i s hx
          obtain ⟨l, hh, m, hb, hk⟩ := bnds_run (P := P) false h
          exact ⟨_, fun w _ => by simp [Instr.sliceAt, Instr.slice, run_underlying' hu, hx, hb w], hk⟩
        · exact h.elim
      · exact h.elim
    · exact h.elim
  · unfold Ext at h
    split at h
    · rename_i vs hx
      split at h
      · rename_i v hv
        exact ⟨v, fun w _ => by simp [Instr.extract, hx, hv], h⟩
      · exact h.elim
    · exact h.elim
  · rename_i t parts
    have e : (parts.map fun (i, x) => (i, ρ x)).toList = parts.toList.map fun p => (p.1, ρ p.2) := by simp
    rw [← e] at h
    obtain ⟨v, hv, hk⟩ := Bld_sound h
    exact ⟨v, fun w _ => by simp [hv w], hk⟩
  · refine ⟨_, fun w _ => ?_, h⟩
    have e : ∀ l : Array Operand, (l.toList.map ρ).toArray = l.map ρ := fun l => by apply Array.ext'; simp
    simp [Instr.makeFunc, e]
  · exact lift (Ld_sound h)
  · rename_i c
    have e : ∀ l : Array Operand, (l.toList.map ρ).toArray = l.map ρ := fun l => by apply Array.ext'; simp
    split at h
    · rename_i hc
      split at h
      · rename_i t ts x xs h1 h2
        have ht : c.argTypes[0]? = some t := by rw [← Array.getElem?_toList, h1]; rfl
        have hx : c.args[0]? = some x := by rw [← Array.getElem?_toList, h2]; rfl
        split at h
        · rename_i el hu
          unfold Len at h
          split at h
          · rename_i a n cp hv
            exact ⟨_, fun w _ => by simp [resolve, hc, invoke, builtin, Builtin.len_, ht, hx, run_underlying' hu, hv, goInt], h⟩
          · exact h.elim
        · rename_i hu
          unfold LenT at h
          split at h
          · rename_i s hv
            exact ⟨_, fun w _ => by simp [resolve, hc, invoke, builtin, Builtin.len_, ht, hx, run_underlying' hu, hv, goInt], h⟩
          · exact h.elim
        · rename_i n el hu
          exact ⟨_, fun w _ => by simp [resolve, hc, invoke, builtin, Builtin.len_, ht, hx, run_underlying' hu, goInt], h⟩
        · exact h.elim
      · exact h.elim
    · rename_i hc
      obtain ⟨v, hv, hk⟩ := h
      exact ⟨v, fun w hw => by have := hv w hw; rw [e] at this; simp [resolve, hc, invoke, builtin, this], hk⟩
    · rename_i hc
      obtain ⟨v, hv, hk⟩ := h
      exact ⟨v, fun w hw => by have := hv w hw; rw [e] at this; simp [resolve, hc, invoke, builtin, this], hk⟩
    · rename_i hc
      obtain ⟨v, hv, hk⟩ := h
      exact ⟨v, fun w hw => by have := hv w hw; rw [e] at this; simp [resolve, hc, invoke, builtin, this], hk⟩
    · exact h.elim
  · exact h.elim

theorem pureOp_noDefer {P : Program} {o : Oper} (h : pureOp P o = true) : noDefer o = true := by
  unfold pureOp at h
  unfold noDefer
  split <;> simp_all

/-- A call of a function value. -/
def CallV (P : Program) (fv : Value) (args : Array Value) (w : World) (k : Value → World → Prop) : Prop :=
  Upon P (do let d ← Deferred.ofValue fv args; invoke d.target d.args) w k
/-- A call of a function that is named. -/
def CallF (P : Program) (f : FuncId) (args : Array Value) (w : World) (k : Value → World → Prop) : Prop := Upon P (callFunc f args) w k

def VEff (P : Program) (o : Oper) (ρ : Operand → Value) (w : World) (k : Value → World → Prop) : Prop :=
  match o.op with
  | .alloc t => Do P (Instr.alloc t true (.tuple #[])) w k
  | .box t x => Do P (Instr.box t (ρ x)) w k
  | .buildSlice t n parts => Do P (Instr.buildSlice t n (parts.toList.map fun p => (p.1, ρ p.2)).toArray) w k
  | .store t a x => DoU P (Instr.storeAt t (ρ a) (ρ x)) w k
  | .convert s d x => Do P (convert s d (ρ x)) w k
  | .makeSlice t l c => Do P (Instr.makeSlice t (ρ l) (ρ c)) w k
  | .makeInterface t x => Do P (Instr.makeInterface t (ρ x)) w k
  | .call c =>
    (match c.callee with
     | .builtin .append => Do P (Builtin.append_ c.argTypes o.type (c.args.toList.map ρ).toArray) w k
     | .builtin .copy => Do P (Builtin.copy_ c.argTypes o.type (c.args.toList.map ρ).toArray) w k
     | .builtin _ => Upon P (execOp ρ o) w k
     | .value (.func f) => CallF P f (c.args.toList.map ρ).toArray w k
     | .value x => CallV P (ρ x) (c.args.toList.map ρ).toArray w k
     | .invoke .. => Upon P (execOp ρ o) w k)
  | _ => Upon P (execOp ρ o) w k

theorem upon_do {P : Program} {s : Sem Value} {w : World} {k : Value → World → Prop} (h : Do P s w k) : Upon P (do pure (Next.value (← s)) : Sem Next) w k := by
  obtain ⟨v, w', hr, hk⟩ := h
  simp [Upon, hr, hk]
theorem upon_doU {P : Program} {s : Sem Unit} {w : World} {k : Value → World → Prop} (h : DoU P s w k) : Upon P (do s; pure Next.skip : Sem Next) w k := by
  obtain ⟨w', hr, hk⟩ := h
  simp [Upon, hr, hk]

theorem VEff_sound {P : Program} {o : Oper} {ρ : Operand → Value} {w : World} {k : Value → World → Prop} (hf : ∀ f, ρ (.func f) = .func (.func f) #[] #[]) (h : VEff P o ρ w k) : Upon P (execOp ρ o) w k := by
  have e : ∀ l : Array Operand, (l.toList.map ρ).toArray = l.map ρ := fun l => by apply Array.ext'; simp
  unfold VEff at h
  split at h
  · rename_i ho; unfold execOp; rw [ho]; exact upon_do h
  · rename_i ho; unfold execOp; rw [ho]; exact upon_do h
  · rename_i t n parts ho
    unfold execOp; rw [ho]
    have e2 : (parts.toList.map fun p => (p.1, ρ p.2)).toArray = parts.map fun (i, x) => (i, ρ x) := by apply Array.ext'; simp
    rw [e2] at h
    exact upon_do h
  · rename_i ho; unfold execOp; rw [ho]; exact upon_doU h
  · rename_i ho; unfold execOp; rw [ho]; exact upon_do h
  · rename_i ho; unfold execOp; rw [ho]; exact upon_do h
  · rename_i ho; unfold execOp; rw [ho]; exact upon_do h
  · rename_i c ho
    split at h
    · rename_i hc
      rw [e] at h
      have : execOp ρ o = (do pure (Next.value (← Builtin.append_ c.argTypes o.type (c.args.map ρ))) : Sem Next) := by
        unfold execOp; rw [ho]; simp [resolve, hc, invoke, builtin]
      rw [this]; exact upon_do h
    · rename_i hc
      rw [e] at h
      have : execOp ρ o = (do pure (Next.value (← Builtin.copy_ c.argTypes o.type (c.args.map ρ))) : Sem Next) := by
        unfold execOp; rw [ho]; simp [resolve, hc, invoke, builtin]
      rw [this]; exact upon_do h
    · exact h
    · rename_i f hc
      rw [e] at h
      have : execOp ρ o = callFunc f (c.args.map ρ) := by
        unfold execOp; rw [ho]; simp [resolve, hc, hf, Deferred.ofValue, invoke]
      rw [this]; exact h
    · rename_i x hx hc
      rw [e] at h
      have : execOp ρ o = (do let d ← Deferred.ofValue (ρ x) (c.args.map ρ); invoke d.target d.args : Sem Next) := by
        unfold execOp; rw [ho]; simp [resolve, hc]
      rw [this]; exact h
    · exact h
  · exact h

def vOp (P : Program) (S : World → Prop) (E : Env) (o : Oper) (w : World) (k : Value → World → Prop) : Prop :=
  bif E.has o then (bif pureOp P o then VPure P S o E.v (fun v => k v w) else VEff P o E.v w k) else False

theorem vOp_sound {P : Program} {S : World → Prop} {E : Env} {o : Oper} {w : World} {k : Value → World → Prop} {a : Act} (hs : Sim E a) (hn : noDefer o = true) (hS : S w) (h : vOp P S E o w k) :
    Upon P (execOp a.eval o) w k := by
  unfold vOp at h
  cases hh : E.has o with
  | false => rw [hh] at h; exact h.elim
  | true =>
    rw [hh] at h
    have hc : execOp a.eval o = execOp E.v o := execOp_congr o (fun cs b e => by simp [noDefer, e] at hn) (hs.has hh)
    rw [hc]
    cases hp : pureOp P o with
    | true =>
      rw [hp] at h
      simp only [cond_true] at h
      obtain ⟨v, hv, hk⟩ := VPure_sound h
      simp only [Upon, hv w hS]
      exact hk
    | false =>
      rw [hp] at h
      simp only [cond_true, cond_false] at h
      exact VEff_sound (fun f => rfl) h
theorem vOp_pure {P : Program} {S : World → Prop} {E : Env} {o : Oper} {w : World} {k : Value → World → Prop} {a : Act} (hs : Sim E a) (hp : pureOp P o = true) (h : vOp P S E o w k) :
    ∃ v, (∀ w', S w' → (execOp a.eval o).run P w' = .ok (.value v) w') ∧ k v w := by
  unfold vOp at h
  cases hh : E.has o with
  | false => rw [hh] at h; exact h.elim
  | true =>
    rw [hh, hp] at h
    have hn := pureOp_noDefer hp
    have hc : execOp a.eval o = execOp E.v o := execOp_congr o (fun cs b e => by simp [noDefer, e] at hn) (hs.has hh)
    rw [hc]
    simp only [cond_true] at h
    exact VPure_sound h

/-! ### Guards -/
def isB (c : Value) (want : Bool) : Bool := match c with | .bool b => b == want | _ => false
/-- An operation that is carried out only where g holds. -/
def Gd (g : Bool) (A : (Value → World → Prop) → Prop) (w : World) (k : Value → World → Prop) : Prop :=
  ∃ R : Value → World → Prop, (g = true → A R) ∧ (g = false → R undef w) ∧ ∀ v w', R v w' → k v w'
/-- The same for one that changes nothing. -/
def GdP (g : Bool) (A : (Value → Prop) → Prop) (k : Value → Prop) : Prop :=
  ∃ v, (g = true → A (fun u => u = v)) ∧ (g = false → v = undef) ∧ k v
def vG (P : Program) (S : World → Prop) (ops : Array Oper) (o : Oper) (E : Env) (w : World) (k : Value → World → Prop) : Prop :=
  match o.guard with
  | none => vOp P S E o w k
  | some (j, want) =>
    match ops.toList[j]? with
    | some oj => (match oj.dst with
      | some d => (match getL E.m d with
        | some c => bif pureOp P o then GdP (isB c want) (fun R => vOp P S E o w (fun v _ => R v)) (fun v => k v w) else Gd (isB c want) (fun R => vOp P S E o w R) w k
        | none => False)
      | none => False)
    | none => False

theorem wanted_of {ops : Array Oper} {o : Oper} {E : Env} {a : Act} {j : Nat} {want : Bool} {oj : Oper} {d : Nat} {c : Value} (hs : Sim E a) (hg : o.guard = some (j, want)) (hj : ops.toList[j]? = some oj) (hd : oj.dst = some d)
    (hc : getL E.m d = some c) : Region.wanted o (yielded ops a.tmps) = isB c want := by
  have hjj : ops[j]? = some oj := by rw [← Array.getElem?_toList]; exact hj
  have h1 := hs.m d c hc
  unfold Region.wanted yielded
  simp only [hg, hjj, Option.bind_some, hd]
  rw [Array.getD_eq_getD_getElem?] at h1
  cases hq : a.tmps[d]? with
  | none =>
    rw [hq] at h1
    simp only [Option.getD_none] at h1
    subst h1
    simp [isB, undef]
  | some u =>
    rw [hq] at h1
    simp only [Option.getD_some] at h1
    subst h1
    cases u <;> simp [isB]

theorem vG_sound {P : Program} {S : World → Prop} {ops : Array Oper} {i : Nat} {o : Oper} {E : Env} {w : World} {k : Value → World → Prop} {a : Act} {K : Act → World → Prop} (hi : ops[i]? = some o) (hs : Sim E a) (hn : noDefer o = true) (hS : S w)
    (h : vG P S ops o E w k) (hK : ∀ v w', k v w' → K (a.put o.dst v) w') : rOp P ops i K a w := by
  unfold rOp
  simp only [hi]
  unfold vG at h
  split at h
  · rename_i hg
    rw [if_pos (by simp [Region.wanted, hg])]
    exact Upon.mono (fun v w' hk => hK v w' hk) (vOp_sound hs hn hS h)
  · rename_i j want hg
    split at h
    · rename_i oj hj
      split at h
      · rename_i d hd
        split at h
        · rename_i c hc
          rw [wanted_of hs hg hj hd hc]
          cases hp : pureOp P o with
          | true =>
            rw [hp] at h
            obtain ⟨v, h1, h2, hk⟩ := h
            cases hb : isB c want with
            | true =>
              simp only [if_true]
              exact Upon.mono (fun u w' hu => by obtain ⟨rfl, rfl⟩ := hu; exact hK _ _ hk) (show Upon P (execOp a.eval o) w (fun u w' => u = v ∧ w' = w) from by
                obtain ⟨x, hx, hxv⟩ := vOp_pure hs hp (h1 hb)
                simp only [Upon, hx w hS]
                exact ⟨hxv, trivial⟩)
            | false =>
              simp only [Bool.false_eq_true, if_false]
              have := h2 hb
              subst this
              exact hK _ _ hk
          | false =>
            rw [hp] at h
            obtain ⟨R, h1, h2, hk⟩ := h
            cases hb : isB c want with
            | true =>
              simp only [if_true]
              exact Upon.mono (fun v w' hr => hK v w' (hk v w' hr)) (vOp_sound hs hn hS (h1 hb))
            | false =>
              simp only [Bool.false_eq_true, if_false]
              exact hK _ _ (hk _ _ (h2 hb))
        · exact h.elim
      · exact h.elim
    · exact h.elim

theorem vG_pure {P : Program} {S : World → Prop} {ops : Array Oper} {o : Oper} {E : Env} {w : World} {k : Value → World → Prop} {a : Act} (hs : Sim E a) (hp : pureOp P o = true)
    (h : vG P S ops o E w k) : ∃ v, Yld P ops S o v a ∧ k v w := by
  unfold vG at h
  split at h
  · rename_i hg
    obtain ⟨v, hv, hk⟩ := vOp_pure hs hp h
    exact ⟨v, .inl ⟨by simp [Region.wanted, hg], hv⟩, hk⟩
  · rename_i j want hg
    split at h
    · rename_i oj hj
      split at h
      · rename_i d hd
        split at h
        · rename_i c hc
          rw [hp] at h
          obtain ⟨v, h1, h2, hk⟩ := h
          have hw := wanted_of hs hg hj hd hc
          cases hb : isB c want with
          | true =>
            obtain ⟨x, hx, hxv⟩ := vOp_pure hs hp (h1 hb)
            exact ⟨v, .inl ⟨hw.trans hb, fun w' hw' => by rw [hx w' hw', hxv]⟩, hk⟩
          | false => exact ⟨v, .inr ⟨hw.trans hb, h2 hb⟩, hk⟩
        · exact h.elim
      · exact h.elim
    · exact h.elim

/-! ### Regions -/
def At (w : World) : World → Prop := fun w' => w' = w
def vOps (P : Program) (ops : Array Oper) : List Oper → Env → World → (Env → World → Prop) → Prop
  | [], E, w, k => k E w
  | o :: os, E, w, k => vG P (At w) ops o E w fun v w' => vOps P ops os (E.put o.dst v) w' k

theorem vOps_sound {P : Program} {ops : Array Oper} (hd : ∀ (i : Nat) o, ops[i]? = some o → noDefer o = true) {K : Act → World → Prop} {k : Env → World → Prop} {G : Env → Prop} (hG : ∀ (i : Nat) o, ops[i]? = some o → ∀ E v, G E → G (E.put o.dst v)) (hK : ∀ E a w, Sim E a → G E → k E w → K a w) :
    ∀ (l : List Oper) (i : Nat), (∀ j, l[j]? = ops[i + j]?) → ∀ (E : Env) (a : Act) (w : World), Sim E a → G E → vOps P ops l E w k → rOps P ops K (List.range' i l.length) a w
  | [], i, _, E, a, w, hs, hg, h => hK E a w hs hg h
  | o :: l, i, hl, E, a, w, hs, hg, h => by
    have h0 : ops[i]? = some o := by simpa using (hl 0).symm
    simp only [List.length_cons, List.range'_succ, rOps]
    refine vG_sound (S := At w) h0 hs (hd i o h0) rfl h fun v w' hk => ?_
    exact vOps_sound hd hG hK l (i + 1) (fun j => by have := hl (j + 1); simpa [Nat.add_assoc, Nat.add_comm 1 j] using this) _ _ _ (hs.put o.dst v) (hG i o h0 E v hg) hk

def firstFree (P : Program) (ops : Array Oper) (listed : Array Bool) (rs : List Nat) : Option Nat :=
  rs.find? fun j => match ops.toList[j]? with | some o => pureOp P o && Region.free .any ops listed j | none => false
def allL : List Nat → (Nat → Prop) → Prop
  | [], _ => True
  | [i], p => p i
  | i :: j :: l, p => p i ∧ allL (j :: l) p
theorem allL_mem : ∀ (l : List Nat) (p : Nat → Prop), allL l p → ∀ i ∈ l, p i
  | [], _, _, i, hi => by cases hi
  | [i], p, h, j, hj => by rw [List.mem_singleton] at hj; subst hj; exact h
  | i :: j :: l, p, h, x, hx => by
    rcases List.mem_cons.1 hx with rfl | hx
    · exact h.1
    · exact allL_mem (j :: l) p h.2 x hx
/-- May what it yields hang on the world? -/
def usesS (o : Oper) : Bool :=
  match o.op with
  | .load .. | .binOp .. | .unOp .. | .call _ => true
  | _ => false
/-- Behind which operations the promise is asked: those that some reading operation may come behind, or ahead of. -/
def needS (P : Program) (ops : Array Oper) (j : Nat) : Bool :=
  match ops.toList[j]? with
  | some oj => (List.range ops.size).any fun i => (!Nat.beq i j) && (match ops.toList[i]? with
    | some oi => usesS oi && pureOp P oi && !(oj.after.toList.any fun e => Region.binds .any e && Nat.beq e.on i)
    | none => false)
  | none => false
theorem needS_of {P : Program} {ops : Array Oper} {i j : Nat} {oi oj : Oper} (hi : ops[i]? = some oi) (hj : ops[j]? = some oj) (hne : j ≠ i) (hu : usesS oi = true) (hp : pureOp P oi = true)
    (hn : ∀ e ∈ oj.after, Region.binds .any e = true → e.on ≠ i) : needS P ops j = true := by
  unfold needS
  rw [Array.getElem?_toList, hj]
  simp only [List.any_eq_true, List.mem_range]
  refine ⟨i, (Array.getElem?_eq_some_iff.1 hi).1, ?_⟩
  rw [Array.getElem?_toList, hi]
  simp only [hu, hp, Bool.true_and, Bool.and_eq_true, Bool.not_eq_true']
  refine ⟨?_, ?_⟩
  · cases hq : Nat.beq i j with
    | false => rfl
    | true => exact absurd (by simpa using hq : i = j).symm hne
  · rw [List.any_eq_false]
    intro e he hb
    rw [Bool.and_eq_true] at hb
    exact hn e (by simpa using he) hb.1 (by simpa using hb.2)
theorem VPure_any {P : Program} {S S' : World → Prop} {o : Oper} {ρ : Operand → Value} {k : Value → Prop} (hu : usesS o = false) (h : VPure P S o ρ k) : VPure P S' o ρ k := by
  unfold VPure at h ⊢
  unfold usesS at hu
  split at hu
  · cases hu
  · cases hu
  · cases hu
  · cases hu
  · rename_i h1 h2 h3 h4
    split at h <;> first | exact h | (exfalso; first | exact h1 _ _ (by assumption) | exact h2 _ _ _ _ _ (by assumption) | exact h3 _ _ _ (by assumption) | exact h4 _ (by assumption))
/-- What is asked behind an operation that changes the world. -/
def andS (P : Program) (S : World → Prop) (ops : Array Oper) (j : Nat) (o : Oper) (w' : World) (p : Prop) : Prop := bif needS P ops j && !pureOp P o then S w' ∧ p else p
def vAny (P : Program) (S : World → Prop) (ops : Array Oper) : Nat → Array Bool → Env → World → (Env → World → Prop) → Prop
  | 0, listed, E, w, k => (match Region.ready .any ops listed with | [] => k E w | _ :: _ => False)
  | n + 1, listed, E, w, k =>
    (match Region.ready .any ops listed with
     | [] => k E w
     | r :: rs => (match firstFree P ops listed (r :: rs) with
       | some j => (match ops.toList[j]? with
         | some o => vG P S ops o E w fun v w' => vAny P S ops n (listed.setIfInBounds j true) (E.put o.dst v) w k
         | none => False)
       | none => allL (r :: rs) fun j => (match ops.toList[j]? with
         | some o => vG P (At w) ops o E w fun v w' => andS P S ops j o w' (vAny P S ops n (listed.setIfInBounds j true) (E.put o.dst v) w' k)
         | none => False)))

theorem vG_pure' {P : Program} {S : World → Prop} {ops : Array Oper} {o : Oper} {E : Env} {w : World} {k : Value → World → Prop} {a : Act} (hs : Sim E a) (hp : pureOp P o = true) (hu : usesS o = false)
    (h : vG P S ops o E w k) : ∃ v, Yld P ops (fun _ => True) o v a ∧ k v w := by
  have key : ∀ {w : World} {k : Value → World → Prop}, vOp P S E o w k → vOp P (fun _ => True) E o w k := by
    intro w k h
    unfold vOp at h ⊢
    cases hh : E.has o with
    | false => rw [hh] at h; exact h
    | true =>
      rw [hh, hp] at h
      rw [hp]
      simp only [cond_true] at h ⊢
      exact VPure_any hu h
  refine vG_pure hs hp (S := fun _ => True) ?_
  unfold vG at h ⊢
  split at h
  · rename_i hg
    exact key h
  · rename_i j want hg
    split at h
    · split at h
      · split at h
        · rename_i hd _ hc
          simp only [*]
          rw [hp] at h
          obtain ⟨v, h1, h2, hk⟩ := h
          exact ⟨v, fun hb => key (h1 hb), h2, hk⟩
        · exact h.elim
      · exact h.elim
    · exact h.elim

theorem vAny_sound {P : Program} {S : World → Prop} {ops : Array Oper} (hd : ∀ (i : Nat) o, ops[i]? = some o → noDefer o = true) {K : Act → World → Prop} {k : Env → World → Prop} {G : Env → Prop} (hG : ∀ (i : Nat) o, ops[i]? = some o → ∀ E v, G E → G (E.put o.dst v)) (hK : ∀ E a w, Sim E a → G E → k E w → K a w) :
    ∀ (n : Nat) (listed : Array Bool) (E : Env) (a : Act) (w : World), Sim E a → (∀ i o, ops[i]? = some o → listed.getD i true = false → usesS o = true → pureOp P o = true → S w) → G E → vAny P S ops n listed E w k → rAny P ops K S (needS P ops) n listed a w
  | 0, listed, E, a, w, hs, hS, hg, h => by
    unfold vAny at h
    split at h
    · rename_i hr; exact ⟨hr, hK E a w hs hg h⟩
    · exact h.elim
  | n + 1, listed, E, a, w, hs, hS, hg, h => by
    have later : ∀ (j : Nat) (listed' : Array Bool), listed' = listed.setIfInBounds j true → ∀ i, listed'.getD i true = false → listed.getD i true = false ∧ i ≠ j := by
      intro j listed' e i hi
      subst e
      by_cases hij : j = i
      · subst hij
        rw [Array.getD_eq_getD_getElem?, Array.getElem?_setIfInBounds] at hi
        simp only [if_true] at hi
        split at hi <;> simp at hi
      · rw [getD_set_ne true hij] at hi
        exact ⟨hi, Ne.symm hij⟩
    unfold vAny at h
    split at h
    · rename_i hr
      exact ⟨fun _ => hK E a w hs hg h, fun i hi => by rw [hr] at hi; cases hi⟩
    · rename_i r rs hr
      split at h
      · rename_i j hj
        split at h
        · rename_i o ho
          have hoj : ops[j]? = some o := by rw [← Array.getElem?_toList]; exact ho
          have hfind := List.find?_some hj
          simp only [ho, Bool.and_eq_true] at hfind
          have hjr : j ∈ Region.ready .any ops listed := by rw [hr]; exact List.mem_of_find?_eq_some hj
          have hjun : listed.getD j true = false := (mem_ready.1 hjr).1
          cases hu : usesS o with
          | true =>
            obtain ⟨v, hy, hk⟩ := vG_pure hs hfind.1 h
            exact rAny_first (Si := S) hoj hd (fun _ h => h) (.inl fun j' oj' hj' hne hno => needS_of hoj hj' hne hu hfind.1 hno) n listed a w (Region.free_spec hoj hfind.2) hjr hy (hS j o hoj hjun hu hfind.1)
              (vAny_sound hd hG hK n _ _ _ w (hs.put o.dst v) (fun i oi hi hun hui hpi => hS i oi hi (later j _ rfl i hun).1 hui hpi) (hG j o hoj E v hg) hk)
          | false =>
            obtain ⟨v, hy, hk⟩ := vG_pure' hs hfind.1 hu h
            exact rAny_first (Si := fun _ => True) hoj hd (fun _ _ => trivial) (.inr fun _ => trivial) n listed a w (Region.free_spec hoj hfind.2) hjr hy trivial
              (vAny_sound hd hG hK n _ _ _ w (hs.put o.dst v) (fun i oi hi hun hui hpi => hS i oi hi (later j _ rfl i hun).1 hui hpi) (hG j o hoj E v hg) hk)
        · exact h.elim
      · refine ⟨fun h0 => (by rw [hr] at h0; cases h0), fun i hi => ?_⟩
        have hir := hi
        rw [hr] at hi
        have := allL_mem _ _ h i hi
        split at this
        · rename_i o ho
          have hoj : ops[i]? = some o := by rw [← Array.getElem?_toList]; exact ho
          obtain ⟨_, oi', hoi', hall⟩ := mem_ready.1 hir
          obtain rfl : oi' = o := by rw [hoj] at hoi'; exact (Option.some.inj hoi').symm
          have hnd : ∀ i' o', ops[i']? = some o' → (listed.setIfInBounds i true).getD i' true = false → usesS o' = true → pureOp P o' = true → needS P ops i = true := by
            intro i' o' hi' hun hu hp
            obtain ⟨hun', hne⟩ := later i _ rfl i' hun
            refine needS_of hi' hoj (Ne.symm hne) hu hp fun e he hb heq => ?_
            have h1 := hall e he hb
            rw [heq] at h1
            rcases Nat.lt_or_ge i' listed.size with h' | h'
            · simp [h'] at hun' h1; rw [hun'] at h1; cases h1
            · simp [Array.getElem?_eq_none h'] at h1
          cases hp : pureOp P oi' with
          | true =>
            obtain ⟨v, hy, hk⟩ := vG_pure (S := At w) hs hp this
            have hk' : vAny P S ops n (listed.setIfInBounds i true) (E.put oi'.dst v) w k := by simpa [andS, hp] using hk
            exact hy.rOp hoj rfl ⟨fun _ => .inl rfl, vAny_sound hd hG hK n _ _ _ w (hs.put _ v) (fun i' o' hi' hun hu hp' => hS i' o' hi' (later i _ rfl i' hun).1 hu hp') (hG i _ hoj E v hg) hk'⟩
          | false =>
            refine vG_sound (S := At w) hoj hs (hd i _ hoj) rfl this fun v w' hk => ?_
            unfold andS at hk
            rw [hp] at hk
            cases hn : needS P ops i with
            | true =>
              rw [hn] at hk
              exact ⟨fun _ => .inr hk.1, vAny_sound hd hG hK n _ _ _ w' (hs.put _ v) (fun _ _ _ _ _ _ => hk.1) (hG i _ hoj E v hg) hk.2⟩
            | false =>
              rw [hn] at hk
              exact ⟨fun h => (by cases h), vAny_sound hd hG hK n _ _ _ w' (hs.put _ v) (fun i' o' hi' hun hu hp' => by have := hnd i' o' hi' hun hu hp'; rw [hn] at this; cases this) (hG i _ hoj E v hg) hk⟩
        · exact this.elim

/-- Does an order matter in the region, as far as one way through it shows? -/
def branchy (P : Program) (ops : Array Oper) : Nat → Array Bool → Bool
  | 0, _ => false
  | n + 1, listed =>
    (match Region.ready .any ops listed with
     | [] => false
     | r :: rs => (match firstFree P ops listed (r :: rs) with
       | some j => branchy P ops n (listed.setIfInBounds j true)
       | none => (match rs with | [] => branchy P ops n (listed.setIfInBounds r true) | _ :: _ => true)))
end Go.Vc
