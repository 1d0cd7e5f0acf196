/- The condition for a function's whole body, and that a call of the function runs as it says. -/
import Derived.Test.YtmlaconjeplhpaaVcCode
import Derived.LoopNIn
set_option linter.unusedVariables false
set_option linter.unusedSimpArgs false
namespace Go.Vc
open Go

def memb : List Nat → Nat → Bool
  | [], _ => false
  | s :: l, t => Nat.beq s t || memb l t
theorem memb_append (l l' : List Nat) (t : Nat) : memb (l ++ l') t = (memb l t || memb l' t) := by
  induction l with
  | nil => rfl
  | cons s l ih => simp [memb, ih, Bool.or_assoc]
def wrOps : List Oper → List Nat
  | [] => []
  | o :: l => match o.dst with | some d => d :: wrOps l | none => wrOps l
theorem wrOps_mem (o : Oper) (d : Nat) (hd : o.dst = some d) (l : List Oper) (ho : o ∈ l) : memb (wrOps l) d = true := by
  induction l with
  | nil => cases ho
  | cons o' l ih =>
    unfold wrOps
    rcases List.mem_cons.1 ho with h | h
    · rw [← h, hd]; simp [memb]
    · have := ih h
      split <;> simp [memb, this]
/-- The temporaries that a piece of code writes. -/
def wr : Code → List Nat
  | .region _ ops _ => wrOps ops.toList
  | .seq a b => wr a ++ wr b
  | .cond _ a b => wr a ++ wr b
  | .block _ c => wr c
  | .loop c => wr c
  | .scope c => wr c
  | _ => []
/-- May its end be come to? -/
def falls : Code → Bool
  | .seq a b => falls a && falls b
  | .cond _ a b => falls a || falls b
  | .block id c => falls c || leavesTo id c
  | .scope c => falls c
  | .loop _ | .exit _ | .ret | .goto _ => false
  | _ => true
where leavesTo (id : Nat) : Code → Bool
  | .exit j => Nat.beq j id
  | .seq a b => leavesTo id a || leavesTo id b
  | .cond _ a b => leavesTo id a || leavesTo id b
  | .block _ c | .loop c | .scope c => leavesTo id c
  | _ => false
/-- How many ways lead out of a block. -/
def waysTo (id : Nat) : Code → Nat
  | .exit j => bif Nat.beq j id then 1 else 0
  | .seq a b => waysTo id a + waysTo id b
  | .cond _ a b => waysTo id a + waysTo id b
  | .block _ c | .loop c | .scope c => waysTo id c
  | .rangeFunc _ _ _ c => waysTo id c
  | _ => 0
/-- Does it hold a range over a function? -/
def hasRF : Code → Bool
  | .seq a b => hasRF a || hasRF b
  | .cond _ a b => hasRF a || hasRF b
  | .block _ c | .loop c | .scope c => hasRF c
  | .rangeFunc .. => true
  | _ => false
def addJ (l : List (Option Nat)) : List (Option Nat) → List (Option Nat)
  | [] => l
  | x :: xs => bif l.any (fun y => match x, y with | none, none => true | some a, some b => Nat.beq a b | _, _ => false) then addJ l xs else addJ (l ++ [x]) xs
/-- The jumps by which a round's body may leave it: a return, or an exit of a block. -/
def jumpsOf : Code → List (Option Nat)
  | .ret => [none]
  | .exit j => [some j]
  | .seq a b => addJ (jumpsOf a) (jumpsOf b)
  | .cond _ a b => addJ (jumpsOf a) (jumpsOf b)
  | .block id c => (jumpsOf c).filter fun y => match y with | some j => !Nat.beq j id | none => true
  | .loop c | .scope c => jumpsOf c
  | _ => []

def PredN : Nat → Type
  | 0 => World → Prop
  | n + 1 => Value → PredN n
def PredN.ap : (n : Nat) → PredN n → List Value → World → Prop
  | 0, J, [], w => J w
  | n + 1, J, v :: vs, w => PredN.ap n (J v) vs w
  | _, _, _, _ => False
def PredN.all : (n : Nat) → PredN n → (List Value → World → Prop) → Prop
  | 0, J, q => ∀ w, J w → q [] w
  | n + 1, J, q => ∀ v, PredN.all n (J v) fun vs w => q (v :: vs) w
theorem PredN.use : ∀ (n : Nat) (J : PredN n) (q : List Value → World → Prop), PredN.all n J q → ∀ (vs : List Value) (w : World), PredN.ap n J vs w → q vs w
  | 0, J, q, h, [], w, ha => h w ha
  | 0, J, q, h, v :: vs, w, ha => False.elim ha
  | n + 1, J, q, h, [], w, ha => False.elim ha
  | n + 1, J, q, h, v :: vs, w, ha => PredN.use n (J v) (fun vs w => q (v :: vs) w) (h v) vs w ha
def allA : Nat → (List Value → Prop) → Prop
  | 0, p => p []
  | n + 1, p => ∀ v, allA n fun vs => p (v :: vs)
theorem allA_use : ∀ (n : Nat) (p : List Value → Prop), allA n p → ∀ vs : List Value, vs.length = n → p vs
  | 0, p, h, [], _ => h
  | n + 1, p, h, v :: vs, hl => allA_use n _ (h v) vs (by simpa using hl)
theorem allA_mk : ∀ (n : Nat) (p : List Value → Prop), (∀ vs : List Value, vs.length = n → p vs) → allA n p
  | 0, p, h => h [] rfl
  | n + 1, p, h => fun v => allA_mk n _ fun vs hl => h (v :: vs) (by simp [hl])

def zipL : List Nat → List Value → List (Nat × Value)
  | t :: ts, v :: vs => (t, v) :: zipL ts vs
  | _, _ => []
def pickV (m : List (Nat × Value)) : List Nat → Option (List Value)
  | [] => some []
  | t :: ts => match getL m t with | some v => (match pickV m ts with | some vs => some (v :: vs) | none => none) | none => none
def filt (L : List Nat) (p : Nat → Bool) : List Nat :=
  match L with
  | [] => []
  | t :: l => bif p t then t :: filt l p else filt l p
/-- The slots that a join speaks of: those that are read elsewhere, that the code writes, and that have a value already. -/
def joinS (L W : List Nat) (E : Env) : List Nat := filt L fun t => memb W t && (getL E.m t).isSome
def joinE (L W : List Nat) (E : Env) (S : List Nat) (vs : List Value) : Env := { E with m := zipL S vs ++ keepL E.m (filt L fun t => !memb W t) }
def dsEq (a b : List Nat) (p : Prop) : Prop := match a, b with | [], [] => p | a, b => a = b ∧ p
theorem dsEq_use {a b : List Nat} {p : Prop} (h : dsEq a b p) : a = b ∧ p := by
  unfold dsEq at h
  split at h
  · exact ⟨rfl, h⟩
  · exact h
def atJ (S : List Nat) (J : PredN S.length) (ds : List Nat) (E' : Env) (w' : World) : Prop :=
  match pickV E'.m S with
  | some vs => dsEq ds E'.ds (PredN.ap S.length J vs w')
  | none => False
def jq (q : Exit → Env → World → Prop) (S : List Nat) (J : PredN S.length) (ds : List Nat) : Exit → Env → World → Prop
  | .normal, E', w' => atJ S J ds E' w'
  | e, E', w' => q e E' w'
def bq (id : Nat) (q : Exit → Env → World → Prop) : Exit → Env → World → Prop
  | .exit j, E', w' => bif Nat.beq j id then q .normal E' w' else q (.exit j) E' w'
  | e, E', w' => q e E' w'
def jbq (id : Nat) (q : Exit → Env → World → Prop) (S : List Nat) (J : PredN S.length) (ds : List Nat) : Exit → Env → World → Prop
  | .normal, E', w' => atJ S J ds E' w'
  | .exit j, E', w' => bif Nat.beq j id then atJ S J ds E' w' else q (.exit j) E' w'
  | e, E', w' => q e E' w'
def sq (k : Env → World → Prop) (q : Exit → Env → World → Prop) : Exit → Env → World → Prop
  | .normal, E', w' => k E' w'
  | e, E', w' => q e E' w'
/-- A join behind a range over a function: what marks there are is told too. -/
def atJD (S : List Nat) (J : List Nat → PredN S.length) (E' : Env) (w' : World) : Prop :=
  match pickV E'.m S with
  | some vs => PredN.ap S.length (J E'.ds) vs w'
  | none => False
def jbqD (id : Nat) (q : Exit → Env → World → Prop) (S : List Nat) (J : List Nat → PredN S.length) : Exit → Env → World → Prop
  | .normal, E', w' => atJD S J E' w'
  | .exit j, E', w' => bif Nat.beq j id then atJD S J E' w' else q (.exit j) E' w'
  | e, E', w' => q e E' w'
def If (c : Value) (A B : Prop) : Prop := match c with | .bool b => (b = true → A) ∧ (b = false → B) | _ => False

/-- The record of a range over a function, in one of its states. -/
def LO (r : Go.Loop) (st : LoopState) (pd : Option Code) : Obj := .loop { r with state := st, pending := pd }
def setO (w : World) (l : Nat) (o : Obj) : World := { w with heap := w.heap.setIfInBounds l o }
/-- The world in which the function that is ranged over is called. -/
def loopW (w : World) (r : Go.Loop) : World := { w with heap := (w.heap.push (.deferred (some []))).push (LO r .ready none) }
def yv (l : Nat) : Value := .func (.yield l) #[] #[]
def lazyRegion (ops : Array Oper) : Bool := ops.toList.all noDefer

def putsL : Env → List Nat → List Value → Env
  | E, p :: ps, x :: xs => putsL (E.put (some p) x) ps xs
  | E, _, _ => E
theorem putsL_sim : ∀ (ps : List Nat) (xs : List Value) (E : Env) (T : Array Value) (ds : List Deferred), Sim E ⟨T, ds⟩ → Sim (putsL E ps xs) ⟨(ps.zip xs).foldl (fun tmps (x : Nat × Value) => tmps.setIfInBounds x.1 x.2) T, ds⟩
  | [], xs, E, T, ds, h => by cases xs <;> exact h
  | p :: ps, [], E, T, ds, h => h
  | p :: ps, x :: xs, E, T, ds, h => putsL_sim ps xs (E.put (some p) x) _ ds (h.put (some p) x)

/-- A call of a function value that is Go text. -/
def CallE (P : Program) (fv : Value) (args : Array Value) (w : World) (k : Value → World → Prop) : Prop :=
  match (do let d ← Deferred.ofValue fv args; invoke d.target d.args : Sem Next).run P w with
  | .ok (.enter f args) w' => Calls P f args w' fun e w'' => ∃ v, e = .returned v ∧ k v w''
  | _ => False

/-- The ways in which a range over a function has ended: its body's jump, if a round left one, is taken up. -/
def loopEnd (q : Exit → Env → World → Prop) (r : Go.Loop) (l : Nat) (E : Env) (w3 : World) : List (Option Nat) → Prop → Prop
  | [], A => A
  | none :: js, A => A ∨ loopEnd q r l E w3 js (∃ st, w3.heap[l]? = some (LO r st (some .ret)) ∧ st ≠ .busy ∧ q .ret E (setO w3 l (LO r .exhausted (some .ret))))
  | some id :: js, A => A ∨ loopEnd q r l E w3 js (∃ st, w3.heap[l]? = some (LO r st (some (.exit id))) ∧ st ≠ .busy ∧ q (.exit id) E (setO w3 l (LO r .exhausted (some (.exit id)))))

def vCode (P : Program) (L : List Nat) : Bool → Code → Env → World → (Exit → Env → World → Prop) → Prop
  | _, .skip, E, w, q => q .normal E w
  | _, .label _, E, w, q => q .normal E w
  | _, .ret, E, w, q => q .ret E w
  | _, .exit id, E, w, q => q (.exit id) E w
  | b, .seq x y, E, w, q => vCode P L b x E w (sq (fun E' w' => vCode P L b y E' w' q) q)
  | b, .scope c, E, w, q => vCode P L b c E w q
  | _, .region _ ops false, E, w, q => bif lazyRegion ops then vOps P ops ops.toList E w (fun E' w' => q .normal (E'.keep L) w') else False
  | _, .region _ ops true, E, w, q =>
    bif lazyRegion ops && P.follows .mixedOrders then
      (bif branchy P ops ops.size (Array.replicate ops.size false) then
        (∃ J : PredN (filt L (memb (wrOps ops.toList))).length,
          PredN.all _ J (fun vs w' => q .normal (joinE L (wrOps ops.toList) E (filt L (memb (wrOps ops.toList))) vs) w') ∧
          ∃ S : World → Prop, S w.drew ∧ vAny P S ops ops.size (Array.replicate ops.size false) E w.drew (fun E' w' => atJ (filt L (memb (wrOps ops.toList))) J E.ds E' w'))
      else ∃ S : World → Prop, S w.drew ∧ vAny P S ops ops.size (Array.replicate ops.size false) E w.drew (fun E' w' => q .normal (E'.keep L) w'))
    else False
  | b, .cond c x y, E, w, q =>
    (match E.ev c with
     | none => False
     | some cv =>
       bif falls x && falls y then
         (∃ J : PredN (joinS L (wr x ++ wr y) E).length,
           PredN.all _ J (fun vs w' => q .normal (joinE L (wr x ++ wr y) E (joinS L (wr x ++ wr y) E) vs) w') ∧
           If cv (vCode P L b x E w (jq q _ J E.ds)) (vCode P L b y E w (jq q _ J E.ds)))
       else If cv (vCode P L b x E w q) (vCode P L b y E w q))
  | b, .block id c, E, w, q =>
    bif Nat.ble 2 (waysTo id c + bif falls c then 1 else 0) then
      (bif hasRF c then
        (∃ J : List Nat → PredN (joinS L (wr c) E).length,
          (∀ ds, PredN.all _ (J ds) (fun vs w' => q .normal { joinE L (wr c) E (joinS L (wr c) E) vs with ds := ds } w')) ∧ vCode P L b c E w (jbqD id q _ J))
      else
        (∃ J : PredN (joinS L (wr c) E).length,
          PredN.all _ J (fun vs w' => q .normal (joinE L (wr c) E (joinS L (wr c) E) vs) w') ∧ vCode P L b c E w (jbq id q _ J E.ds)))
    else vCode P L b c E w (bq id q)
  | b, .loop c, E, w, q =>
    (match pickV E.m (joinS L (wr c) E) with
     | none => False
     | some vs0 =>
       ∃ (I : Nat → PredN (joinS L (wr c) E).length) (m0 : Nat), PredN.ap _ (I m0) vs0 w ∧
         ∀ m, PredN.all _ (I m) (fun vs w' => vCode P L b c (joinE L (wr c) E (joinS L (wr c) E) vs) w'
           (sq (fun E' w'' => ∃ m', m' < m ∧ atJ (joinS L (wr c) E) (I m') E.ds E' w'') q)))
  | false, .rangeFunc f ps x y, E, w, q =>
    (match E.ev f with
     | none => False
     | some fv => ∀ r : Go.Loop,
       (allA ps.toList.length fun args => ∀ (w' : World) (k : Value → World → Prop), w'.heap[w.heap.size + 1]? = some (LO r .ready none) →
         vCode P L true x (putsL { E with ds := [] } ps.toList args) w' (fun e E1 w1 =>
           (match e with
            | .normal => w1.heap[w.heap.size + 1]? = some (LO r .ready none) ∧
              vCode P L true y E1 (setO w1 (w.heap.size + 1) (LO r .busy none)) (fun e E2 w2 => w2.heap[w.heap.size + 1]? = some (LO r .busy none) ∧
                (match e with
                 | .normal => k (.bool true) (setO w2 (w.heap.size + 1) (LO r .ready none))
                 | .ret => k (.bool false) (setO w2 (w.heap.size + 1) (LO r .done (some .ret)))
                 | .exit id => k (.bool false) (setO w2 (w.heap.size + 1) (LO r .done (some (.exit id))))
                 | _ => False))
            | _ => False)) →
         CallV P (yv (w.heap.size + 1)) args.toArray w' k) →
       CallE P fv #[yv (w.heap.size + 1)] (loopW w r) (fun _ w3 =>
         loopEnd q r (w.heap.size + 1) { E with ds := w.heap.size :: E.ds } w3 (jumpsOf y)
           (∃ st, w3.heap[w.heap.size + 1]? = some (LO r st none) ∧ st ≠ .busy ∧ q .normal { E with ds := w.heap.size :: E.ds } (setO w3 (w.heap.size + 1) (LO r .exhausted none)))))
  | _, _, _, _, _ => False

/-! ### That it suffices -/
structure Agree (L W : List Nat) (E E' : Env) : Prop where
  m : ∀ t, memb L t = true → memb W t = false → getL E'.m t = getL E.m t
  n : E'.n = E.n
theorem Agree.refl (L W : List Nat) (E : Env) : Agree L W E E := ⟨fun _ _ _ => rfl, rfl⟩
theorem Agree.trans {L W W' : List Nat} {E E' E'' : Env} (h : Agree L W E E') (h' : Agree L W' E' E'') : Agree L (W ++ W') E E'' :=
  ⟨fun t hl hw => by
    rw [memb_append, Bool.or_eq_false_iff] at hw
    exact (h'.m t hl hw.2).trans (h.m t hl hw.1), h'.n.trans h.n⟩
theorem Agree.wide {L W W' : List Nat} {E E' : Env} (h : Agree L W E E') (hw : ∀ t, memb W' t = false → memb W t = false) : Agree L W' E E' := ⟨fun t hl h' => h.m t hl (hw t h'), h.n⟩
theorem Agree.put {L W : List Nat} {E E' : Env} (h : Agree L W E E') {d : Option Nat} (v : Value) (hd : ∀ x, d = some x → memb W x = true) : Agree L W E (E'.put d v) := by
  cases d with
  | none => exact h
  | some d =>
    unfold Env.put
    simp only
    cases Nat.blt d E'.n with
    | false => exact h
    | true =>
      refine ⟨fun t hl hw => ?_, h.n⟩
      simp only [cond_true, getL]
      cases hq : Nat.beq d t with
      | true =>
        have : d = t := by simpa using hq
        subst this
        rw [hd d rfl] at hw
        cases hw
      | false => exact h.m t hl hw
theorem memb_filt (p : Nat → Bool) : ∀ (L : List Nat) (t : Nat), memb (filt L p) t = true → memb L t = true ∧ p t = true
  | [], t, h => by simp [filt, memb] at h
  | s :: L, t, h => by
    unfold filt at h
    cases hp : p s with
    | true =>
      rw [hp] at h
      simp only [cond_true, memb, Bool.or_eq_true] at h
      rcases h with h | h
      · have : s = t := by simpa using h
        subst this
        exact ⟨by simp [memb], hp⟩
      · have := memb_filt p L t h
        exact ⟨by simp [memb, this.1], this.2⟩
    | false =>
      rw [hp] at h
      have := memb_filt p L t h
      exact ⟨by simp [memb, this.1], this.2⟩
theorem filt_memb (p : Nat → Bool) : ∀ (L : List Nat) (t : Nat), memb L t = true → p t = true → memb (filt L p) t = true
  | [], t, h, _ => by simp [memb] at h
  | s :: L, t, h, hp => by
    simp only [memb, Bool.or_eq_true] at h
    unfold filt
    rcases h with h | h
    · have : s = t := by simpa using h
      subst this
      rw [hp]; simp [memb]
    · have := filt_memb p L t h hp
      cases p s <;> simp [memb, this]
theorem getL_append (m m' : List (Nat × Value)) (t : Nat) : getL (m ++ m') t = match getL m t with | some v => some v | none => getL m' t := by
  induction m with
  | nil => rfl
  | cons x m ih =>
    obtain ⟨s, v⟩ := x
    simp only [List.cons_append, getL]
    cases Nat.beq s t with
    | true => rfl
    | false => exact ih
theorem getL_zip_memb : ∀ (S : List Nat) (vs : List Value) (t : Nat) (v : Value), getL (zipL S vs) t = some v → memb S t = true
  | [], vs, t, v, h => by simp [zipL, getL] at h
  | s :: S, [], t, v, h => by simp [zipL, getL] at h
  | s :: S, u :: vs, t, v, h => by
    simp only [zipL, getL] at h
    cases hq : Nat.beq s t with
    | true => simp [memb, hq]
    | false => rw [hq] at h; simp [memb, getL_zip_memb S vs t v h]
theorem getL_zip_pick {m : List (Nat × Value)} : ∀ (S : List Nat) (vs : List Value) (t : Nat) (v : Value), pickV m S = some vs → getL (zipL S vs) t = some v → getL m t = some v
  | [], vs, t, v, hp, h => by simp [zipL, getL] at h
  | s :: S, vs, t, v, hp, h => by
    unfold pickV at hp
    split at hp
    · rename_i u hu
      split at hp
      · rename_i us hus
        obtain rfl := Option.some.inj hp
        simp only [zipL, getL] at h
        cases hq : Nat.beq s t with
        | true =>
          rw [hq] at h
          have : s = t := by simpa using hq
          subst this
          simp only [cond_true, Option.some.injEq] at h
          subst h
          exact hu
        | false => rw [hq] at h; exact getL_zip_pick S us t v hus h
      · cases hp
    · cases hp
theorem keepL_memb (m : List (Nat × Value)) : ∀ (ts : List Nat) (t : Nat) (v : Value), getL (keepL m ts) t = some v → memb ts t = true
  | [], t, v, h => by simp [keepL, getL] at h
  | s :: ts, t, v, h => by
    unfold keepL at h
    split at h
    · simp only [getL] at h
      cases hq : Nat.beq s t with
      | true => simp [memb, hq]
      | false => rw [hq] at h; simp [memb, keepL_memb m ts t v h]
    · simp [memb, keepL_memb m ts t v h]
theorem keepL_get (m : List (Nat × Value)) : ∀ (ts : List Nat) (t : Nat), memb ts t = true → getL (keepL m ts) t = getL m t
  | [], t, h => by simp [memb] at h
  | s :: ts, t, h => by
    simp only [memb, Bool.or_eq_true] at h
    unfold keepL
    cases hq : Nat.beq s t with
    | true =>
      have : s = t := by simpa using hq
      subst this
      split
      · rename_i v hv; simp [getL, hv]
      · rename_i hv
        rw [hv]
        cases hh : getL (keepL m ts) s with
        | none => rfl
        | some u => have := getL_keepL m ts s u hh; rw [hv] at this; cases this
    | false =>
      have ht : memb ts t = true := by rcases h with h | h; (rw [hq] at h; cases h); exact h
      split
      · simp only [getL, hq, cond_false]; exact keepL_get m ts t ht
      · exact keepL_get m ts t ht
theorem joinE_sim {L W S : List Nat} {E E' : Env} {a : Act} {vs : List Value} (hs : Sim E' a) (ha : Agree L W E E') (hp : pickV E'.m S = some vs) (hd : E.ds = E'.ds) : Sim (joinE L W E S vs) a := by
  refine hs.sub (fun t v ht => ?_) ha.n.symm hd
  unfold joinE at ht
  simp only [getL_append] at ht
  split at ht
  · rename_i u hu
    obtain rfl := Option.some.inj ht
    exact getL_zip_pick S vs t u hp hu
  · have h1 := keepL_memb _ _ _ _ ht
    obtain ⟨hl, hw⟩ := memb_filt _ _ _ h1
    have hv := getL_keepL _ _ _ _ ht
    rw [ha.m t hl (by simpa using hw)]
    exact hv
theorem joinE_agree {L W S : List Nat} {E : Env} {vs : List Value} (hS : ∀ t, memb S t = true → memb W t = true) : Agree L W E (joinE L W E S vs) := by
  refine ⟨fun t hl hw => ?_, rfl⟩
  unfold joinE
  simp only [getL_append]
  split
  · rename_i u hu
    have := hS t (getL_zip_memb S vs t u hu)
    rw [hw] at this
    cases this
  · exact keepL_get _ _ _ (filt_memb _ _ _ hl (by simp [hw]))
theorem keep_agree {L W : List Nat} {E E' : Env} (h : Agree L W E E') : Agree L W E (E'.keep L) := by
  refine ⟨fun t hl hw => ?_, h.n⟩
  rw [← h.m t hl hw]
  exact keepL_get _ _ _ hl

def post (L W : List Nat) (E : Env) (q : Exit → Env → World → Prop) : Exit → Act → World → Prop
  | .normal, a, w => ∃ E', Sim E' a ∧ Agree L W E E' ∧ q .normal E' w
  | .ret, a, w => ∃ E', Sim E' a ∧ Agree L W E E' ∧ q .ret E' w
  | .exit id, a, w => ∃ E', Sim E' a ∧ Agree L W E E' ∧ q (.exit id) E' w
  | _, _, _ => False

theorem post_mono {L W W' : List Nat} {E : Env} {q q' : Exit → Env → World → Prop} (hw : ∀ t, memb W' t = false → memb W t = false) (hq : ∀ e E' a w, Sim E' a → Agree L W E E' → q e E' w → q' e E' w) :
    ∀ e a w, post L W E q e a w → post L W' E q' e a w := by
  intro e a w h
  cases e <;> first | exact h | (obtain ⟨E', hs, ha, h⟩ := h; exact ⟨E', hs, ha.wide hw, hq _ _ _ _ hs ha h⟩)

theorem atJ_use {L W S : List Nat} {E E' : Env} {a : Act} {w : World} {J : PredN S.length} {k : List Value → World → Prop} (hs : Sim E' a) (ha : Agree L W E E') (h : atJ S J E.ds E' w) (hk : PredN.all _ J k) :
    ∃ vs, Sim (joinE L W E S vs) a ∧ k vs w := by
  unfold atJ at h
  split at h
  · rename_i vs hp
    obtain ⟨hd, hj⟩ := dsEq_use h
    exact ⟨vs, joinE_sim hs ha hp hd, PredN.use _ J k hk vs w hj⟩
  · exact h.elim

theorem wpIn_scope {F : Fence} {n : Nat} {P : Program} {c : Code} {Q : Exit → Act → World → Prop} {a : Act} {w : World} (hQ : ∀ l a w, ¬ Q (.goto l) a w) (h : c.wpIn F n P Q a w) : (Code.scope c).wpIn F n P Q a w := by
  intro b k cs hro hb hr
  have h0 : (lone (b.atR a (.code (.scope c) :: k)) cs w).fenced P F := fenced_calm hb hr rfl
  have s0 : step P (lone (b.atR a (.code (.scope c) :: k)) cs w) = .next (lone (b.atR a (.code c :: .inScope c :: k)) cs w) :=
    step_lone_go (by simp [stepG, stepG.exec, Frame.atR])
  obtain ⟨e, a₁, w₁, hq, harr⟩ := h b (.inScope c :: k) cs hro hb hr
  have hx : ∀ id, exitTo id (.inScope c :: k) = exitTo id k := fun id => by simp [exitTo]
  cases e with
  | normal =>
    have s1 : step P (lone (b.atR a₁ (.inScope c :: k)) cs w₁) = .next (lone (b.atR a₁ k) cs w₁) :=
      step_lone_go (by simp [stepG, stepG.exec, Frame.atR])
    exact ⟨.normal, a₁, w₁, hq, .head h0 s0 (StepsIn.trans harr (.one (fenced_calm hb hr rfl) s1))⟩
  | exit id =>
    exact ⟨.exit id, a₁, w₁, hq, fun k' hk => .head h0 s0 (harr.1 k' (by rw [hx]; exact hk)),
      fun hr' hk => let ⟨k₁, h1, h2⟩ := harr.2 hr' (by rw [hx]; exact hk); ⟨k₁, h1, .head h0 s0 h2⟩⟩
  | goto l => exact (hQ l _ _ hq).elim
  | ret => exact ⟨_, a₁, w₁, hq, .of_steps (.one h0 s0) harr⟩
  | panic ch => exact ⟨_, a₁, w₁, hq, .of_steps (.one h0 s0) harr⟩
  | outgrown => exact ⟨_, a₁, w₁, hq, .of_steps (.one h0 s0) harr⟩

theorem rounds_more {F : Fence} {n : Nat} {P : Program} {c : Code} {Q : Exit → Act → World → Prop} : ∀ (k : Nat) (a : Act) (w : World), Code.roundsIn F n P c Q k a w → Code.roundsIn F n P c Q (k + 1) a w
  | 0, a, w, h => False.elim h
  | k + 1, a, w, h => by
    rw [roundsIn_succ] at h ⊢
    exact wpIn_mono h fun e a w hq => by cases e <;> first | exact hq | exact rounds_more k a w hq
theorem rounds_le {F : Fence} {n : Nat} {P : Program} {c : Code} {Q : Exit → Act → World → Prop} {k k' : Nat} (hk : k ≤ k') {a : Act} {w : World} (h : Code.roundsIn F n P c Q k a w) : Code.roundsIn F n P c Q k' a w := by
  induction hk with
  | refl => exact h
  | step _ ih => exact rounds_more _ _ _ ih
end Go.Vc
