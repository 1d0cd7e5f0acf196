/- A condition for a piece of the program's code to run without failing, read off the code by a function: its definition and its soundness. What each operation of the program's code asks in order to run without failing, and what it yields: definitions, and that they say so rightly. The condition for a whole body of code, read off the code; and that it suffices. The condition for a function's whole body, and that a call of the function runs as it says. That the condition read off a body of code suffices: the code runs, and a call of the function returns as the condition says. -/
import Derived.RangeFuncIn
import Derived.RangeFuncLeaves
import Derived.OrdersIn
import Derived.WalkKit
import Derived.KernelRfl
import Derived.LoopNIn
set_option linter.unusedVariables false
set_option linter.unusedSimpArgs false
namespace Go.Vc
open Go

/-- Any fence at all, in a round or not. -/
def wF (r : Option Nat) : Fence := { Fence.wide with round := r }

theorem wF_none : wF none = Fence.wide := rfl

/-- What one operation of the machine comes to: it yields a value, or a call returns one. -/
def Upon (P : Program) (s : Sem Next) (w : World) (k : Value → World → Prop) : Prop :=
  match s.run P w with
  | .ok (.value v) w' => k v w'
  | .ok .skip w' => k undef w'
  | .ok (.enter f args) w' => Calls P f args w' fun e w'' => ∃ v, e = .returned v ∧ k v w''
  | .ok (.round l f tmps assign body) w' => RoundIn Fence.wide 0 P l f tmps assign body w' fun e w'' => ∃ v, e = .returned v ∧ k v w''
  | _ => False

theorem Upon.mono {P : Program} {s : Sem Next} {w : World} {k k' : Value → World → Prop} (hk : ∀ v w, k v w → k' v w) (h : Upon P s w k) : Upon P s w k' := by
  unfold Upon at *
  split at h
  · exact hk _ _ h
  · exact hk _ _ h
  · exact Calls.mono h fun e w'' ⟨v, he, hv⟩ => ⟨v, he, hk _ _ hv⟩
  · exact RoundIn.mono h fun e w'' ⟨v, he, hv⟩ => ⟨v, he, hk _ _ hv⟩
  · exact h.elim

/-! ### A region's operations, on the machine's own temporaries -/
def rOp (P : Program) (ops : Array Oper) (i : Nat) (K : Act → World → Prop) (a : Act) (w : World) : Prop :=
  match ops[i]? with
  | none => K a w
  | some o => if Region.wanted o (yielded ops a.tmps) then Upon P (execOp a.eval o) w (fun v w' => K (a.put o.dst v) w') else K (a.put o.dst undef) w

theorem rOp_mono {P : Program} {ops : Array Oper} {i : Nat} {K K' : Act → World → Prop} {a : Act} {w : World} (hk : ∀ a w, K a w → K' a w) (h : rOp P ops i K a w) : rOp P ops i K' a w := by
  unfold rOp at *
  split
  · exact hk _ _ (by simpa [*] using h)
  · rename_i o ho
    simp only [ho] at h
    split
    · rename_i hw; simp only [hw, if_true] at h; exact Upon.mono (fun _ _ h => hk _ _ h) h
    · rename_i hw; simp only [hw] at h; exact hk _ _ h

def noDefer (o : Oper) : Bool := match o.op with | .defer _ | .select .. => false | _ => true

theorem wF_fn (r : Option Nat) (f : FuncId) : (wF r).fn f := trivial
theorem wF_room (r : Option Nat) (n : Nat) : (wF r).room n := fun _ h => by simp [wF, Fence.wide] at h

theorem rOp_sound {P : Program} {ops : Array Oper} {r : Option Nat} {n : Nat} {Q : Exit → Act → World → Prop} {i : Nat} {K : Act → World → Prop} {a : Act} {w : World}
    (hd : ∀ o, ops[i]? = some o → noDefer o = true) (h : rOp P ops i K a w) : wpOpIn (wF r) n P ops Q i K a w := by
  unfold rOp at h
  unfold wpOpIn
  split
  · simpa [*] using h
  · rename_i o ho
    simp only [ho] at h
    have hdo := hd o ho
    split
    · rename_i hw
      simp only [hw, if_true] at h
      refine ⟨fun _ _ => trivial, ?_⟩
      rw [Oper.semAt_eq _ _ _ (by intro c hc; simp [noDefer, hc] at hdo)]
      unfold Upon at h
      split at h
      · rename_i v w' hr; rw [hr]; exact h
      · rename_i w' hr; rw [hr]; exact h
      · rename_i f args w' hr
        rw [hr]
        refine ⟨fun hx => by simp [wF, Fence.wide] at hx, ?_⟩
        have : CallsIn (wF r) (n - 1) P f args w' (fun e w'' => ∃ v, e = .returned v ∧ K (a.put o.dst v) w'') := callsIn_wide.2 h
        exact CallsIn.mono this fun e w'' ⟨v, he, hv⟩ => by subst he; exact hv
      · rename_i l f tmps assign body w' hr
        rw [hr]
        refine ⟨fun hx => by simp [wF, Fence.wide] at hx, ?_⟩
        have h2 : RoundIn (wF r) (n - 1) P l f tmps assign body w' (fun e w'' => ∃ v, e = .returned v ∧ K (a.put o.dst v) w'') := ⟨trivial, fun c cs _ => h.2 c cs (room_wide _)⟩
        exact RoundIn.mono h2 fun e w'' ⟨v, he, hv⟩ => by subst he; exact hv
      · exact h.elim
    · rename_i hw
      simp only [hw] at h
      exact ⟨fun _ _ => trivial, h⟩

/-- Operations one behind the other. -/
def rOps (P : Program) (ops : Array Oper) (K : Act → World → Prop) : List Nat → Act → World → Prop
  | [], a, w => K a w
  | i :: rest, a, w => rOp P ops i (rOps P ops K rest) a w

theorem rOps_sound {P : Program} {ops : Array Oper} {r : Option Nat} {n : Nat} {Q : Exit → Act → World → Prop} (hd : ∀ (i : Nat) o, ops[i]? = some o → noDefer o = true) :
    ∀ (l : List Nat) (a : Act) (w : World), rOps P ops (Q .normal) l a w → wpOpsIn (wF r) n P ops Q l a w
  | [], a, w, h => h
  | i :: rest, a, w, h => by
    rw [wpOpsIn_cons]
    exact wpOpIn_mono (fun a w h => rOps_sound hd rest a w h) (rOp_sound (hd i) h)

/-- Whatever order is picked; behind each operation that nd names the world is as it was, or S holds. -/
def rAny (P : Program) (ops : Array Oper) (K : Act → World → Prop) (S : World → Prop) (nd : Nat → Bool) : Nat → Array Bool → Act → World → Prop
  | 0, listed, a, w => Region.ready .any ops listed = [] ∧ K a w
  | fuel + 1, listed, a, w =>
    (Region.ready .any ops listed = [] → K a w) ∧
    ∀ i ∈ Region.ready .any ops listed, rOp P ops i (fun a' w' => (nd i = true → w' = w ∨ S w') ∧ rAny P ops K S nd fuel (listed.setIfInBounds i true) a' w') a w

theorem rAny_sound {P : Program} {ops : Array Oper} {r : Option Nat} {n : Nat} {Q : Exit → Act → World → Prop} {S : World → Prop} {nd : Nat → Bool} (hd : ∀ (i : Nat) o, ops[i]? = some o → noDefer o = true) :
    ∀ (fuel : Nat) (listed : Array Bool) (a : Act) (w : World), rAny P ops (Q .normal) S nd fuel listed a w → wpAnyIn (wF r) n P .any ops Q fuel listed a w
  | 0, _, _, _, h => h
  | fuel + 1, listed, a, w, h => ⟨h.1, fun i hi => wpOpIn_mono (fun a' w' h' => rAny_sound hd fuel _ a' w' h'.2) (rOp_sound (hd i) (h.2 i hi))⟩

/-- In every world that meets S, the operation leaves v and does nothing else. -/
def Yld (P : Program) (ops : Array Oper) (S : World → Prop) (o : Oper) (v : Value) (a : Act) : Prop :=
  (Region.wanted o (yielded ops a.tmps) = true ∧ ∀ w, S w → (execOp a.eval o).run P w = .ok (.value v) w) ∨
  (Region.wanted o (yielded ops a.tmps) = false ∧ v = undef)

theorem Yld.rOp {P : Program} {ops : Array Oper} {S : World → Prop} {i : Nat} {o : Oper} {v : Value} {a : Act} (hi : ops[i]? = some o) (hy : Yld P ops S o v a)
    {K : Act → World → Prop} {w : World} (hS : S w) (h : K (a.put o.dst v) w) : Vc.rOp P ops i K a w := by
  unfold Vc.rOp
  simp only [hi]
  rcases hy with ⟨hw, hv⟩ | ⟨hw, rfl⟩
  · simp only [hw, if_true, Upon, hv w hS]; exact h
  · simp only [hw, Bool.false_eq_true, if_false]; exact h

theorem Yld.of_same {P : Program} {ops : Array Oper} {S : World → Prop} {o : Oper} {v : Value} {a a' : Act} (hy : Yld P ops S o v a) (he : execOp a'.eval o = execOp a.eval o)
    (hw : Region.wanted o (yielded ops a'.tmps) = Region.wanted o (yielded ops a.tmps)) : Yld P ops S o v a' := by
  unfold Yld at *
  rw [he, hw]
  exact hy

theorem rOp_put {P : Program} {ops : Array Oper} {S : World → Prop} {j : Nat} {oi oj : Oper} {v : Value} (hj : ops[j]? = some oj) (hap : oi.apart ops oj = true)
    (hsi : noDefer oi = true) (hsj : noDefer oj = true) {K : Act → World → Prop} {a : Act} {w : World}
    (hy : Yld P ops S oi v a) (h : rOp P ops j K (a.put oi.dst v) w) :
    rOp P ops j (fun a' w' => Yld P ops S oi v a' ∧ K (a'.put oi.dst v) w') a w := by
  obtain ⟨h1, h2, h3⟩ := Oper.apart_spec hap
  have hsi' : ∀ cs b, oi.op ≠ .select cs b := fun cs b e => by simp [noDefer, e] at hsi
  have hsj' : ∀ cs b, oj.op ≠ .select cs b := fun cs b e => by simp [noDefer, e] at hsj
  have keep : ∀ (a : Act), Yld P ops S oi v a → ∀ u, Yld P ops S oi v (a.put oj.dst u) := fun a hy u =>
    hy.of_same (execOp_put oi hsi' a oj.dst u h3) (wanted_put oi a oj.dst u h3)
  unfold rOp at *
  simp only [hj] at *
  rw [wanted_put oj a oi.dst v h1] at h
  split
  · rename_i hw
    simp only [hw, if_true] at h
    rw [execOp_put oj hsj' a oi.dst v h1] at h
    refine Upon.mono (fun u w' hu => ⟨keep a hy u, ?_⟩) h
    rw [← Act.put_comm a v u h2]; exact hu
  · rename_i hw
    simp only [hw] at h
    exact ⟨keep a hy _, by rw [← Act.put_comm a v undef h2]; exact h⟩

theorem rAny_first {P : Program} {ops : Array Oper} {K : Act → World → Prop} {S Si : World → Prop} {nd : Nat → Bool} {i : Nat} {oi : Oper} {v : Value} (hi : ops[i]? = some oi)
    (hsel : ∀ (j : Nat) (o : Oper), ops[j]? = some o → noDefer o = true) (hS : ∀ w, S w → Si w)
    (hnd : (∀ (j : Nat) oj, ops[j]? = some oj → j ≠ i → (∀ e ∈ oj.after, Region.binds .any e = true → e.on ≠ i) → nd j = true) ∨ ∀ w, Si w) :
    ∀ (fuel : Nat) (listed : Array Bool) (a : Act) (w : World),
      (∀ j oj, ops[j]? = some oj → j ≠ i → listed.getD j true = false → (∀ e ∈ oj.after, Region.binds .any e = true → e.on ≠ i) → oi.apart ops oj = true) →
      i ∈ Region.ready .any ops listed → Yld P ops Si oi v a → Si w →
      rAny P ops K S nd fuel (listed.setIfInBounds i true) (a.put oi.dst v) w → rAny P ops K S nd (fuel + 1) listed a w := by
  intro fuel
  induction fuel with
  | zero =>
    intro listed a w _ hr hy hw H
    refine ⟨fun h => (by rw [h] at hr; cases hr), fun j hj => ?_⟩
    by_cases hji : j = i
    · subst hji; exact hy.rOp hi hw ⟨fun _ => .inl rfl, H⟩
    · have := ready_mono hj hji
      rw [H.1] at this
      cases this
  | succ fuel ih =>
    intro listed a w hfree hr hy hw H
    refine ⟨fun h => (by rw [h] at hr; cases hr), fun j hj => ?_⟩
    by_cases hji : j = i
    · subst hji; exact hy.rOp hi hw ⟨fun _ => .inl rfl, H⟩
    · have h1 := H.2 j (ready_mono hj hji)
      obtain ⟨hjun, oj, hoj, hall⟩ := mem_ready.1 hj
      have hnot : ∀ e ∈ oj.after, Region.binds .any e = true → e.on ≠ i := fun e he hb heq => by
        have h1 := hall e he hb
        have h0 := (mem_ready.1 hr).1
        rw [heq] at h1
        rcases Nat.lt_or_ge i listed.size with h' | h'
        · simp [h'] at h0 h1; rw [h0] at h1; cases h1
        · simp [Array.getElem?_eq_none h'] at h1
      have h2 := rOp_put hoj (hfree j oj hoj hji hjun hnot) (hsel i oi hi) (hsel j oj hoj) hy h1
      have hfree' : ∀ k ok, ops[k]? = some ok → k ≠ i → (listed.setIfInBounds j true).getD k true = false →
          (∀ e ∈ ok.after, Region.binds .any e = true → e.on ≠ i) → oi.apart ops ok = true := fun k ok hk hki hun hno => by
        refine hfree k ok hk hki ?_ hno
        by_cases hjk : j = k
        · subst hjk; exact hjun
        · rw [getD_set_ne true hjk] at hun; exact hun
      refine rOp_mono (fun a' w' h3 => ⟨h3.2.1, ?_⟩) h2
      have hw' : Si w' := by
        rcases hnd with hnd | hnd
        · rcases h3.2.1 (hnd j oj hoj hji hnot) with e | e
          · rw [e]; exact hw
          · exact hS w' e
        · exact hnd w'
      refine ih (listed.setIfInBounds j true) a' w' hfree' (ready_mono hr (Ne.symm hji)) h3.1 hw' ?_
      rw [Array.setIfInBounds_comm _ _ hji]
      exact h3.2.2

end Go.Vc

set_option linter.unusedVariables false
set_option linter.unusedSimpArgs false
namespace Go.Vc
open Go

def Do (P : Program) (s : Sem Value) (w : World) (k : Value → World → Prop) : Prop := ∃ v w', s.run P w = .ok v w' ∧ k v w'
def DoU (P : Program) (s : Sem Unit) (w : World) (k : Value → World → Prop) : Prop := ∃ w', s.run P w = .ok () w' ∧ k undef w'
/-- A value that does not hang on the world, as long as S holds. -/
def Pu (P : Program) (S : World → Prop) (s : Sem Value) (k : Value → Prop) : Prop := ∃ v, (∀ w', S w' → s.run P w' = .ok v w') ∧ k v

def isC : Operand → Bool | .const _ => true | _ => false
def binSem (op : BinOp) (t : TypeId) (cx cy : Bool) (x y : Value) : Sem Value := do
  eqGuard op t (bif cx then .const undef else .tmp 0) (bif cy then .const undef else .tmp 0) x y
  binOp op t x y
theorem eqGuard_flags (op : BinOp) (t : TypeId) (x y : Operand) (u v : Value) :
    eqGuard op t x y u v = eqGuard op t (bif isC x then .const undef else .tmp 0) (bif isC y then .const undef else .tmp 0) u v := by
  unfold eqGuard
  cases x <;> cases y <;> rfl

/-- Two whole numbers. -/
def BinI (op : BinOp) (κ : IntKind) (a : Int) (κ' : IntKind) (b : Int) (k : Value → Prop) : Prop :=
  match op with
  | .shl => 0 ≤ b ∧ k (.int κ (κ.wrap (a * 2 ^ min b.toNat κ.bits)))
  | .shr => 0 ≤ b ∧ k (.int κ (a.fdiv (2 ^ min b.toNat κ.bits)))
  | .add => κ = κ' ∧ k (.int κ (κ.wrap (a + b)))
  | .sub => κ = κ' ∧ k (.int κ (κ.wrap (a - b)))
  | .mul => κ = κ' ∧ k (.int κ (κ.wrap (a * b)))
  | .quo => κ = κ' ∧ b ≠ 0 ∧ k (.int κ (κ.wrap (a.tdiv b)))
  | .rem => κ = κ' ∧ b ≠ 0 ∧ k (.int κ (a.tmod b))
  | .and => κ = κ' ∧ k (.int κ (κ.wrap (BitVec.ofInt κ.bits a &&& BitVec.ofInt κ.bits b).toNat))
  | .or => κ = κ' ∧ k (.int κ (κ.wrap (BitVec.ofInt κ.bits a ||| BitVec.ofInt κ.bits b).toNat))
  | .xor => κ = κ' ∧ k (.int κ (κ.wrap (BitVec.ofInt κ.bits a ^^^ BitVec.ofInt κ.bits b).toNat))
  | .andNot => κ = κ' ∧ k (.int κ (κ.wrap (BitVec.ofInt κ.bits a &&& ~~~BitVec.ofInt κ.bits b).toNat))
  | .eql => κ = κ' ∧ k (.bool (a == b))
  | .neq => κ = κ' ∧ k (.bool (a != b))
  | .lss => κ = κ' ∧ k (.bool (decide (a < b)))
  | .leq => κ = κ' ∧ k (.bool (decide (a ≤ b)))
  | .gtr => κ = κ' ∧ k (.bool (decide (a > b)))
  | .geq => κ = κ' ∧ k (.bool (decide (a ≥ b)))
def Bin (P : Program) (S : World → Prop) (op : BinOp) (t : TypeId) (cx cy : Bool) (x y : Value) (k : Value → Prop) : Prop :=
  match x, y with
  | .int κ a, .int κ' b => BinI op κ a κ' b k
  | x, y => Pu P S (binSem op t cx cy x y) k
theorem Bin_sound {P : Program} {S : World → Prop} {op : BinOp} {t : TypeId} {xo yo : Operand} {x y : Value} {k : Value → Prop}
    (h : Bin P S op t (isC xo) (isC yo) x y k) : ∃ v, (∀ w, S w → (do eqGuard op t xo yo x y; binOp op t x y : Sem Value).run P w = .ok v w) ∧ k v := by
  unfold Bin at h
  split at h
  · rename_i κ a κ' b
    unfold BinI at h
    cases op <;> simp only at h <;>
      first
        | (obtain ⟨rfl, h0, h⟩ := h; exact ⟨_, fun w _ => by simp [eqGuard, binOp, Op.intDiv, h0], h⟩)
        | (obtain ⟨rfl, h⟩ := h; exact ⟨_, fun w _ => by simp [eqGuard, binOp, Op.intArith, Op.intBits, Op.intCmp], h⟩)
        | (obtain ⟨h0, h⟩ := h; exact ⟨_, fun w _ => by simp [eqGuard, binOp, Op.shift, show ¬ b < 0 by omega], h⟩)
  · obtain ⟨v, hv, hk⟩ := h
    refine ⟨v, fun w hw => ?_, hk⟩
    rw [eqGuard_flags]
    exact hv w hw

def Un (P : Program) (S : World → Prop) (op : UnOp) (x : Value) (k : Value → Prop) : Prop :=
  match op, x with
  | .not, .bool b => k (.bool !b)
  | .neg, .int κ n => k (.int κ (κ.wrap (0 - n)))
  | .xor, .int κ n => k (.int κ (κ.wrap (BitVec.ofInt κ.bits (if κ.signed then -1 else κ.max) ^^^ BitVec.ofInt κ.bits n).toNat))
  | op, x => Pu P S (Op.unary op x) k
theorem Un_sound {P : Program} {S : World → Prop} {op : UnOp} {x : Value} {k : Value → Prop} (h : Un P S op x k) : ∃ v, (∀ w, S w → (Op.unary op x).run P w = .ok v w) ∧ k v := by
  unfold Un at h
  split at h
  · exact ⟨_, fun w _ => by simp [Op.unary], h⟩
  · exact ⟨_, fun w _ => by simp [Op.unary, Op.intArith], h⟩
  · exact ⟨_, fun w _ => by simp [Op.unary, Op.intBits], h⟩
  · exact h

def Pick (c a b : Value) (k : Value → Prop) : Prop := match c with | .bool c => k (bif c then a else b) | _ => False
def NilC (x : Value) (k : Value → Prop) : Prop := match x with | .pointer (some a) => k (.pointer (some a)) | _ => False
def ConvI (κ : IntKind) (x : Value) (k : Value → Prop) : Prop := match x with | .int _ n => k (.int κ (κ.wrap n)) | _ => False
def FAd (off : Nat) (x : Value) (k : Value → Prop) : Prop := match x with | .pointer (some a) => k (.pointer (some (a.add off))) | _ => False
def IAdS (size : Nat) (x i : Value) (k : Value → Prop) : Prop :=
  match x, i with | .slice (some a) len _, .int _ n => 0 ≤ n ∧ n < (len : Int) ∧ k (.pointer (some (a.add (n.toNat * size)))) | _, _ => False
def IAdA (len size : Nat) (x i : Value) (k : Value → Prop) : Prop :=
  match x, i with | .pointer (some a), .int _ n => 0 ≤ n ∧ n < (len : Int) ∧ k (.pointer (some (a.add (n.toNat * size)))) | _, _ => False
def LdC (S : World → Prop) (x : Value) (k : Value → Prop) : Prop := match x with | .pointer (some a) => ∃ v, (∀ w', S w' → w'.cell? a = some v) ∧ k v | _ => False
def LdA (S : World → Prop) (n : Nat) (x : Value) (k : Value → Prop) : Prop :=
  match x with | .pointer (some a) => ∃ l : List Value, l.length = n ∧ (∀ w', S w' → ∀ j v, l[j]? = some v → w'.cell? (a.add j) = some v) ∧ k (.agg l.toArray) | _ => False
def Len (x : Value) (k : Value → Prop) : Prop := match x with | .slice _ n _ => k (.int .i64 n) | _ => False
def LenT (x : Value) (k : Value → Prop) : Prop := match x with | .string s => k (.int .i64 s.size) | _ => False
def Cap (x : Value) (k : Value → Prop) : Prop := match x with | .slice _ _ c => k (.int .i64 c) | _ => False
def Ext (x : Value) (i : Nat) (k : Value → Prop) : Prop := match x with | .tuple vs => (match vs[i]? with | some v => k v | none => False) | _ => False
/-- A part of an aggregate: one cell, or several. -/
def Fld (agg : Bool) (off size : Nat) (x : Value) (k : Value → Prop) : Prop :=
  match x with | .agg cs => bif agg then k (.agg (cs.extract off (off + size))) else (match cs[off]? with | some v => k v | none => False) | _ => False
def IxA (agg : Bool) (len size : Nat) (x i : Value) (k : Value → Prop) : Prop :=
  match i with | .int _ n => 0 ≤ n ∧ n < (len : Int) ∧ Fld agg (n.toNat * size) size x k | _ => False
def IxS (x i : Value) (k : Value → Prop) : Prop :=
  match x, i with | .string s, .int _ n => ∃ h : 0 ≤ n ∧ n.toNat < s.size, k (.int .u8 ((s[n.toNat]'h.2).toNat : Int)) | _, _ => False

def isAggT (P : Program) (t : TypeId) : Bool := match P.underlying t with | some (.struct _) => true | some (.array _ _) => true | _ => false
def sizeT (P : Program) (t : TypeId) : Option Nat := (P.info? t).map (·.size)
def asI : Value → Option Int | .int _ n => some n | _ => none
/-- Bounds of a slice expression, off the values of its operands. -/
def bnds (len cap : Nat) (lo hi mx : Option Value) (k : Nat → Nat → Nat → Prop) : Prop :=
  let m : Option Int := match mx with | some v => asI v | none => some (cap : Int)
  let h : Option Int := match hi with | some v => asI v | none => (match mx with | none => some (len : Int) | some _ => none)
  let l : Option Int := match lo with | some v => asI v | none => some 0
  match m, h, l with
  | some m, some h, some l => (mx.isSome = true → 0 ≤ m ∧ m ≤ (cap : Int)) ∧ (hi.isSome = true → 0 ≤ h ∧ h ≤ m) ∧ (lo.isSome = true → 0 ≤ l ∧ l ≤ h) ∧ k l.toNat h.toNat m.toNat
  | _, _, _ => False
def SlcS (size : Nat) (x : Value) (lo hi mx : Option Value) (k : Value → Prop) : Prop :=
  match x with
  | .slice a len cap => bnds len cap lo hi mx fun l h m => k (.slice (bif Nat.beq m l then a else a.map (·.add (l * size))) (h - l) (m - l))
  | _ => False
def SlcA (n size : Nat) (x : Value) (lo hi mx : Option Value) (k : Value → Prop) : Prop :=
  match x with
  | .pointer (some a) => bnds n n lo hi mx fun l h m => k (.slice (some (bif Nat.beq m l then a else a.add (l * size))) (h - l) (m - l))
  | _ => False
def SlcT (x : Value) (lo hi : Option Value) (k : Value → Prop) : Prop :=
  match x with
  | .string s => bnds s.size s.size lo hi none fun l h _ => k (.string (s.extract l h))
  | _ => False

theorem bnds_run {P : Program} {len cap : Nat} {lo hi mx : Option Value} {k : Nat → Nat → Nat → Prop} (isS : Bool) (h : bnds len cap lo hi mx k) :
    ∃ l h m, (∀ w, (Instr.sliceBounds isS len cap lo hi mx).run P w = .ok (l, h, m) w) ∧ k l h m := by
  unfold bnds at h
  simp only at h
  split at h
  · rename_i m' h' l' e1 e2 e3
    obtain ⟨hm, hh, hl, hk⟩ := h
    refine ⟨_, _, _, ?_, hk⟩
    intro w
    have sb : ∀ (v : Value) (n : Int) (y : Nat) (c : BoundsCode), asI v = some n → 0 ≤ n → n ≤ (y : Int) → (Instr.sliceBound v y c).run P w = .ok n.toNat w := by
      intro v n y c hv h0 h1
      cases v <;> simp [asI] at hv
      subst hv
      simp [Instr.sliceBound, asIntOf, h0, h1]
    unfold Instr.sliceBounds
    cases mx with
    | none =>
      simp only at e1
      obtain rfl := Option.some.inj e1
      cases hi with
      | none =>
        simp only at e2
        obtain rfl := Option.some.inj e2
        cases lo with
        | none =>
          simp only at e3
          obtain rfl := Option.some.inj e3
          simp
        | some lv =>
          simp only at e3
          obtain ⟨l0, l1⟩ := hl rfl
          simp [sb lv l' len _ e3 l0 l1]
      | some hv =>
        simp only at e2
        obtain ⟨h0, h1⟩ := hh rfl
        have hb := sb hv h' cap (if isS then .sliceAcap else .sliceAlen) e2 h0 h1
        cases lo with
        | none =>
          simp only at e3
          obtain rfl := Option.some.inj e3
          simp [hb]
        | some lv =>
          simp only at e3
          obtain ⟨l0, l1⟩ := hl rfl
          have := sb lv l' h'.toNat .sliceB e3 l0 (by omega)
          simp [hb, this]
    | some mv =>
      simp only at e1
      obtain ⟨m0, m1⟩ := hm rfl
      have hb := sb mv m' cap (if isS then .slice3Acap else .slice3Alen) e1 m0 m1
      cases hi with
      | none => simp at e2
      | some hv =>
        simp only at e2
        obtain ⟨h0, h1⟩ := hh rfl
        have hb2 := sb hv h' m'.toNat .slice3B e2 h0 (by omega)
        cases lo with
        | none =>
          simp only at e3
          obtain rfl := Option.some.inj e3
          simp [hb, hb2]
        | some lv =>
          simp only at e3
          obtain ⟨l0, l1⟩ := hl rfl
          have := sb lv l' h'.toNat .slice3C e3 l0 (by omega)
          simp [hb, hb2, this]
  · exact h.elim

theorem loadCells_list {P : Program} {w : World} {a : Addr} : ∀ (l : List Value) (i : Nat) (acc : Array Value), (∀ j v, l[j]? = some v → w.cell? (a.add (i + j)) = some v) →
    (loadCellsFrom a i l.length acc).run P w = .ok (acc ++ l.toArray) w
  | [], i, acc, h => by simp [loadCellsFrom]
  | v :: l, i, acc, h => by
    have h0 := h 0 v (by simp)
    simp only [Nat.add_zero] at h0
    have := loadCells_list (P := P) l (i + 1) (acc.push v) (fun j u hu => by have := h (j + 1) u (by simpa using hu); rw [show i + 1 + j = i + (j + 1) by omega]; exact this)
    simp only [List.length_cons, loadCellsFrom, Sem.run_bind, run_load, h0, Result.andThen_ok, this]
    simp

theorem run_isAgg {P : Program} (t : TypeId) {d : TypeDesc} (h : P.underlying t = some d) (w : World) : (isAgg t).run P w = .ok (isAggT P t) w := by
  unfold isAgg isAggT
  cases d <;> simp [underlying, h]

theorem run_sizeOf {P : Program} (t : TypeId) {n : Nat} (h : sizeT P t = some n) (w : World) : (sizeOf t).run P w = .ok n w := by
  unfold sizeT at h
  obtain ⟨i, hi, rfl⟩ := Option.map_eq_some_iff.1 h
  simp [sizeOf, typeInfo, hi]

def Ld (P : Program) (S : World → Prop) (t : TypeId) (x : Value) (k : Value → Prop) : Prop :=
  match P.underlying t with
  | some (.struct _) => (match sizeT P t with | some n => LdA S n x k | none => False)
  | some (.array _ _) => (match sizeT P t with | some n => LdA S n x k | none => False)
  | some _ => LdC S x k
  | none => False
theorem LdA_sound {P : Program} {S : World → Prop} {t : TypeId} {n : Nat} {x : Value} {k : Value → Prop} {d : TypeDesc} (hd : P.underlying t = some d) (ha : isAggT P t = true) (hn : sizeT P t = some n) (h : LdA S n x k) :
    ∃ v, (∀ w, S w → (Instr.loadAt t x).run P w = .ok v w) ∧ k v := by
  unfold LdA at h
  split at h
  · rename_i a
    obtain ⟨l, hl, hc, hk⟩ := h
    refine ⟨_, fun w hw => ?_, hk⟩
    have := loadCells_list (P := P) (w := w) (a := a) l 0 #[] (fun j v hj => by rw [Nat.zero_add]; exact hc w hw j v hj)
    simp only [Instr.loadAt, Instr.sureAddr, loadVar, Sem.run_bind, Sem.run_pure, Result.andThen_ok, run_isAgg t hd, ha, if_true, run_sizeOf t hn, loadCells]
    rw [← hl, this]
    simp
  · exact h.elim
theorem Ld_sound {P : Program} {S : World → Prop} {t : TypeId} {x : Value} {k : Value → Prop} (h : Ld P S t x k) : ∃ v, (∀ w, S w → (Instr.loadAt t x).run P w = .ok v w) ∧ k v := by
  unfold Ld at h
  split at h
  · rename_i hd
    split at h
    · exact LdA_sound hd (by simp [isAggT, hd]) (by assumption) h
    · exact h.elim
  · rename_i hd
    split at h
    · exact LdA_sound hd (by simp [isAggT, hd]) (by assumption) h
    · exact h.elim
  · rename_i d hs ha hd
    have hagg : isAggT P t = false := by
      unfold isAggT
      rw [hd]
      split
      · rename_i e; exact absurd (Option.some.inj e) (hs _)
      · rename_i e; exact absurd (Option.some.inj e) (ha _ _)
      · rfl
    unfold LdC at h
    split at h
    · obtain ⟨v, hv, hk⟩ := h
      refine ⟨v, fun w hw => ?_, hk⟩
      simp [Instr.loadAt, Instr.sureAddr, loadVar, run_isAgg t hd, hagg, hv w hw]
    · exact h.elim
  · exact h.elim

/-! ### Building an aggregate -/
def splice (cs : List Value) (off : Nat) (l : List Value) : List Value := cs.take off ++ l ++ cs.drop (off + l.length)
def fillL (place : Nat → Option (Nat × Nat)) : List Value → List (Nat × Value) → Option (List Value)
  | cs, [] => some cs
  | cs, (i, v) :: rest =>
    match place i with
    | none => none
    | some (off, size) => bif !(Nat.beq v.cells.toList.length size) || !(Nat.ble (off + size) cs.length) then none else fillL place (splice cs off v.cells.toList) rest
def placeT (P : Program) (t : TypeId) : Option (Nat → Option (Nat × Nat)) :=
  match P.underlying t with
  | some (.struct fields) => some fun i => (fields.toList[i]?).bind fun f => (sizeT P f.type).map fun s => (f.offset, s)
  | some (.array _ e) => (sizeT P e).map fun s => fun i => some (i * s, s)
  | _ => none
def zeroT (P : Program) (t : TypeId) : Option Value := (P.info? t).bind (·.zero)
def bldL (P : Program) (t : TypeId) (parts : List (Nat × Value)) : Option (List Value) :=
  match zeroT P t, placeT P t with
  | some z, some pl => fillL pl z.cells.toList parts
  | _, _ => none
def fieldsOk (P : Program) (t : TypeId) : Bool := match P.underlying t with | some (.struct f) => f.toList.all fun x => (sizeT P x.type).isSome | _ => true
def Bld (P : Program) (t : TypeId) (parts : List (Nat × Value)) (k : Value → Prop) : Prop := ∃ l, bldL P t parts = some l ∧ fieldsOk P t = true ∧ k (.agg l.toArray)

theorem fold_splice (off : Nat) : ∀ (l : List Value) (j : Nat) (cs : Array Value), off + j + l.length ≤ cs.size →
    ((l.zipIdx j).foldl (fun cs (c, j) => cs.setIfInBounds (off + j) c) cs).toList = splice cs.toList (off + j) l
  | [], j, cs, h => by simp [splice]
  | c :: l, j, cs, h => by
    simp only [List.zipIdx_cons, List.foldl_cons]
    simp only [List.length_cons] at h
    rw [fold_splice off l (j + 1) _ (by simp; omega)]
    unfold splice
    simp only [Array.toList_setIfInBounds, List.length_cons]
    rw [List.drop_set_of_lt (by omega), ← Nat.add_assoc]
    rw [show off + j + 1 + l.length = off + j + (l.length + 1) by omega]
    congr 1
    rw [List.take_succ_eq_append_getElem (by simp; omega)]
    simp [List.take_set_of_le]

theorem fill_list (place : Nat → Option (Nat × Nat)) : ∀ (parts : List (Nat × Value)) (cs : Array Value) (l : List Value), fillL place cs.toList parts = some l → Instr.fill place cs parts = some l.toArray
  | [], cs, l, h => by simp only [fillL, Option.some.injEq] at h; subst h; simp [Instr.fill]
  | (i, v) :: rest, cs, l, h => by
    simp only [fillL] at h
    simp only [Instr.fill]
    split at h
    · cases h
    · rename_i off size hp
      simp only [hp]
      have hc : (!(Nat.beq v.cells.toList.length size) || !(Nat.ble (off + size) cs.toList.length)) = false := by
        cases hb : (!(Nat.beq v.cells.toList.length size) || !(Nat.ble (off + size) cs.toList.length)) with
        | false => rfl
        | true => rw [hb] at h; cases h
      rw [hc] at h
      simp only [cond_false] at h
      rw [Bool.or_eq_false_iff] at hc
      have h1 : v.cells.size = size := by have := hc.1; simp only [Bool.not_eq_false', Nat.beq_eq_true_eq] at this; simpa using this
      have h2 : off + size ≤ cs.size := by have := hc.2; simp only [Bool.not_eq_false', Nat.ble_eq] at this; simpa using this
      rw [if_neg (by simp [h1]; omega)]
      refine fill_list place rest _ l ?_
      have hz : (v.cells.zipIdx.foldl (fun cs (c, j) => cs.setIfInBounds (off + j) c) cs).toList = splice cs.toList off v.cells.toList := by
        have := fold_splice off v.cells.toList 0 cs (by simp; omega)
        rw [Nat.add_zero] at this
        rw [← this, ← Array.foldl_toList, Array.toList_zipIdx]
      rw [hz]
      exact h

theorem Bld_sound {P : Program} {t : TypeId} {parts : Array (Nat × Value)} {k : Value → Prop} (h : Bld P t parts.toList k) : ∃ v, (∀ w, (Instr.build t parts).run P w = .ok v w) ∧ k v := by
  obtain ⟨l, hl, hs0, hk⟩ := h
  have hs : ∀ f, P.underlying t = some (.struct f) → ∀ x ∈ f.toList, (sizeT P x.type).isSome = true := by
    intro f hf x hx
    unfold fieldsOk at hs0
    rw [hf] at hs0
    simp only [List.all_eq_true] at hs0
    exact hs0 x hx
  refine ⟨_, fun w => ?_, hk⟩
  unfold bldL at hl
  split at hl
  · rename_i z pl hz hp
    unfold zeroT at hz
    obtain ⟨i, hi, hz⟩ := Option.bind_eq_some_iff.1 hz
    unfold placeT at hp
    split at hp
    · rename_i fields hu
      obtain rfl := Option.some.inj hp
      have hm : ∀ (l : List Field) (w : World), (∀ x ∈ l, (sizeT P x.type).isSome = true) → (l.mapM (fun f : Go.Field => (do pure (f.offset, ← sizeOf f.type) : Sem (Nat × Nat)))).run P w = .ok (l.map fun f : Go.Field => (f.offset, (sizeT P f.type).getD 0)) w := by
        intro l
        induction l with
        | nil => intro w _; simp
        | cons f l ih =>
          intro w hx
          obtain ⟨n, hn⟩ := Option.isSome_iff_exists.1 (hx f (by simp))
          rw [List.mapM_cons]
          simp only [Sem.run_bind, run_sizeOf _ hn, Result.andThen_ok, Sem.run_pure, ih w (fun x hx' => hx x (by simp [hx'])), hn, List.map_cons, Option.getD_some]
      have hm' : (fields.mapM (fun f : Go.Field => (do pure (f.offset, ← sizeOf f.type) : Sem (Nat × Nat)))).run P w = .ok (fields.map fun f : Go.Field => (f.offset, (sizeT P f.type).getD 0)) w := by
        rw [Array.mapM_eq_mapM_toList]
        simp only [Sem.run_map, hm fields.toList w (hs fields hu), Result.andThen_ok]
        congr 1
        apply Array.ext'
        simp
      have hpl : (fun i : Nat => (fields.toList[i]?).bind fun f : Go.Field => (sizeT P f.type).map fun s => (f.offset, s)) = fun i : Nat => (fields.map fun f : Go.Field => (f.offset, (sizeT P f.type).getD 0))[i]? := by
        funext i
        simp only [Array.getElem?_map, Array.getElem?_toList]
        cases hf : fields[i]? with
        | none => simp
        | some f =>
          obtain ⟨n, hn⟩ := Option.isSome_iff_exists.1 (hs fields hu f (by simpa using Array.mem_of_getElem? hf))
          simp [hn]
      rw [hpl] at hl
      have := fill_list _ parts.toList z.cells l hl
      simp [-bind_pure_comp, -Array.getElem?_map, Instr.build, zeroValue, typeInfo, hi, hz, underlying, hu, hm', this]
    · rename_i n e hu
      obtain ⟨s, hs', rfl⟩ := Option.map_eq_some_iff.1 hp
      have := fill_list _ parts.toList z.cells l hl
      simp [Instr.build, zeroValue, typeInfo, hi, hz, underlying, hu, run_sizeOf e hs', this]
    · cases hp
  · cases hl

end Go.Vc

set_option linter.unusedVariables false
set_option linter.unusedSimpArgs false
namespace Go.Vc
open Go

/-! ### What is known of the temporaries -/
structure Env where
  m : List (Nat × Value)
  n : Nat
  ds : List Nat
def getL : List (Nat × Value) → Nat → Option Value
  | [], _ => none
  | (s, v) :: r, t => bif Nat.beq s t then some v else getL r t
def Env.ev (E : Env) : Operand → Option Value
  | .tmp t => getL E.m t
  | .const v => some v
  | .global g => some (.pointer (some ⟨g, 0, none⟩))
  | .func f => some (.func (.func f) #[] #[])
def Env.v (E : Env) (x : Operand) : Value := match E.ev x with | some v => v | none => undef
def Env.put (E : Env) (d : Option Nat) (v : Value) : Env :=
  match d with
  | none => E
  | some d => bif Nat.blt d E.n then { E with m := (d, v) :: E.m } else E
def mkD (r : Nat) : Deferred := { target := .collected r, args := #[] }
structure Sim (E : Env) (a : Act) : Prop where
  m : ∀ t v, getL E.m t = some v → a.tmps.getD t undef = v
  n : a.tmps.size = E.n
  ds : a.defers = E.ds.map mkD

theorem Sim.ev {E : Env} {a : Act} (h : Sim E a) {x : Operand} {v : Value} (hx : E.ev x = some v) : a.eval x = v := by
  cases x with
  | tmp t => exact h.m t v hx
  | _ => exact Option.some.inj hx
theorem Sim.put {E : Env} {a : Act} (h : Sim E a) (d : Option Nat) (v : Value) : Sim (E.put d v) (a.put d v) := by
  cases d with
  | none => exact h
  | some d =>
    unfold Env.put
    simp only
    cases hb : Nat.blt d E.n with
    | false =>
      have hd : ¬ d < E.n := fun hl => by
        have h2 : Nat.blt d E.n = true := by rw [Nat.blt_eq]; exact hl
        rw [hb] at h2; cases h2
      refine ⟨fun t u hu => ?_, by simp [Act.put]; exact h.n, h.ds⟩
      rw [← h.m t u hu]
      simp only [Act.put, Array.getD_eq_getD_getElem?]
      rw [Array.getElem?_setIfInBounds]
      split
      · subst_vars
        rw [if_neg (by rw [h.n]; exact hd), Array.getElem?_eq_none (by rw [h.n]; omega)]
      · rfl
    | true =>
      have hd : d < E.n := by rw [Nat.blt_eq] at hb; exact hb
      refine ⟨fun t u hu => ?_, by simp [Act.put]; exact h.n, h.ds⟩
      simp only [cond_true, getL] at hu
      simp only [Act.put, Array.getD_eq_getD_getElem?]
      rw [Array.getElem?_setIfInBounds]
      cases hq : Nat.beq d t with
      | true =>
        rw [hq] at hu
        have : d = t := by simpa using hq
        subst this
        simp only [cond_true, Option.some.injEq] at hu
        rw [if_pos rfl, if_pos (by rw [h.n]; exact hd)]
        simpa using hu
      | false =>
        rw [hq] at hu
        have hne : d ≠ t := by intro e; subst e; simp at hq
        rw [if_neg hne]
        have := h.m t u hu
        rw [Array.getD_eq_getD_getElem?] at this
        exact this
/-- What is forgotten does no harm. -/
theorem Sim.sub {E E' : Env} {a : Act} (h : Sim E a) (hm : ∀ t v, getL E'.m t = some v → getL E.m t = some v) (hn : E'.n = E.n) (hd : E'.ds = E.ds) : Sim E' a :=
  ⟨fun t v ht => h.m t v (hm t v ht), h.n.trans hn.symm, h.ds.trans (by rw [hd])⟩
def keepL (m : List (Nat × Value)) : List Nat → List (Nat × Value)
  | [] => []
  | t :: ts => match getL m t with | some v => (t, v) :: keepL m ts | none => keepL m ts
theorem getL_keepL (m : List (Nat × Value)) : ∀ (ts : List Nat) (t : Nat) (v : Value), getL (keepL m ts) t = some v → getL m t = some v
  | [], t, v, h => by simp [keepL, getL] at h
  | s :: ts, t, v, h => by
    unfold keepL at h
    split at h
    · rename_i u hu
      simp only [getL] at h
      cases hq : Nat.beq s t with
      | true =>
        rw [hq] at h
        have : s = t := by simpa using hq
        subst this
        simp only [cond_true, Option.some.injEq] at h
        subst h
        exact hu
      | false => rw [hq] at h; exact getL_keepL m ts t v h
    · exact getL_keepL m ts t v h
def Env.keep (E : Env) (L : List Nat) : Env := { E with m := keepL E.m L }
theorem Sim.keep {E : Env} {a : Act} (h : Sim E a) (L : List Nat) : Sim (E.keep L) a := h.sub (fun t v => getL_keepL E.m L t v) rfl rfl

/-! ### One operation -/
def Env.has (E : Env) (o : Oper) : Bool := o.op.operands.toList.all fun x => (E.ev x).isSome
theorem all_toArray {α : Type} (p : α → Bool) (l : List α) : l.toArray.toList.all p = l.all p := rfl
theorem Sim.has {E : Env} {a : Act} (h : Sim E a) {o : Oper} (hh : E.has o = true) : ∀ x ∈ o.op.operands, a.eval x = E.v x := by
  intro x hx
  unfold Env.has at hh
  rw [List.all_eq_true] at hh
  have := hh x (by simpa using hx)
  obtain ⟨v, hv⟩ := Option.isSome_iff_exists.1 this
  rw [h.ev hv]
  simp [Env.v, hv]

def intT (P : Program) (t : TypeId) : Option IntKind := match P.underlying t with | some (.int k) => some k | _ => none
theorem intT_some {P : Program} {t : TypeId} {κ : IntKind} (h : intT P t = some κ) : P.underlying t = some (.int κ) := by
  unfold intT at h
  split at h
  · rename_i k hk; rw [hk, Option.some.inj h]
  · cases h
def pureOp (P : Program) (o : Oper) : Bool :=
  match o.op with
  | .move _ | .assign _ | .pick .. | .nilCheck _ | .binOp .. | .unOp .. | .fieldAddr .. | .field .. | .indexAddr .. | .index .. | .slice .. | .extract .. | .build .. | .makeFunc .. | .load .. => true
  | .convert src dst _ => (intT P src).isSome && (intT P dst).isSome
  | .call { callee := .builtin .len, .. } | .call { callee := .builtin .cap, .. } | .call { callee := .builtin .min, .. } | .call { callee := .builtin .max, .. } => true
  | _ => false

def VPure (P : Program) (S : World → Prop) (o : Oper) (ρ : Operand → Value) (k : Value → Prop) : Prop :=
  match o.op with
  | .move x => k (ρ x)
  | .assign x => k (ρ x)
  | .pick c a b => Pick (ρ c) (ρ a) (ρ b) k
  | .nilCheck x => NilC (ρ x) k
  | .binOp op t x y _ => Bin P S op t (isC x) (isC y) (ρ x) (ρ y) k
  | .unOp op _ x => Un P S op (ρ x) k
  | .convert src dst x => (match intT P src, intT P dst with | some _, some κ => ConvI κ (ρ x) k | _, _ => False)
  | .fieldAddr s x f =>
    (match P.underlying s with
     | some (.struct fs) => (match fs.toList[f]? with
       | some fd => (match sizeT P fd.type with | some (_ + 1) => FAd fd.offset (ρ x) k | _ => False)
       | none => False)
     | _ => False)
  | .field s x f =>
    (match P.underlying s with
     | some (.struct fs) => (match fs.toList[f]? with
       | some fd => (match P.underlying fd.type, sizeT P fd.type with | some _, some n => Fld (isAggT P fd.type) fd.offset n (ρ x) k | _, _ => False)
       | none => False)
     | _ => False)
  | .indexAddr t x i =>
    (match P.underlying t with
     | some (.slice e) => (match sizeT P e with | some n => IAdS n (ρ x) (ρ i) k | none => False)
     | some (.array len e) => (match sizeT P e with | some n => IAdA len n (ρ x) (ρ i) k | none => False)
     | _ => False)
  | .index t x i =>
    (match P.underlying t with
     | some (.array len e) => (match P.underlying e, sizeT P e with | some _, some n => IxA (isAggT P e) len n (ρ x) (ρ i) k | _, _ => False)
     | some .string => IxS (ρ x) (ρ i) k
     | _ => False)
  | .slice t x lo hi mx =>
    (match P.underlying t with
     | some (.slice e) => (match sizeT P e with | some n => SlcS n (ρ x) (lo.map ρ) (hi.map ρ) (mx.map ρ) k | none => False)
     | some (.array len e) => (match sizeT P e with | some n => SlcA len n (ρ x) (lo.map ρ) (hi.map ρ) (mx.map ρ) k | none => False)
     | some .string => (match mx with | none => SlcT (ρ x) (lo.map ρ) (hi.map ρ) k | some _ => False)
     | _ => False)
  | .extract x i => Ext (ρ x) i k
  | .build t parts => Bld P t (parts.toList.map fun p => (p.1, ρ p.2)) k
  | .makeFunc fn first captured => k (.func fn (first.toList.map ρ).toArray (captured.toList.map ρ).toArray)
  | .load t x => Ld P S t (ρ x) k
  | .call c =>
    (match c.callee with
     | .builtin .len => (match c.argTypes.toList, c.args.toList with
       | t :: _, x :: _ => (match P.underlying t with
         | some (.slice _) => Len (ρ x) k
         | some .string => LenT (ρ x) k
         | some (.array n _) => k (.int .i64 n)
         | _ => False)
       | _, _ => False)
     | .builtin .cap => Pu P S (Builtin.cap_ c.argTypes o.type (c.args.toList.map ρ).toArray) k
     | .builtin .min => Pu P S (Builtin.min_ c.argTypes o.type (c.args.toList.map ρ).toArray) k
     | .builtin .max => Pu P S (Builtin.max_ c.argTypes o.type (c.args.toList.map ρ).toArray) k
     | _ => False)
  | _ => False

theorem run_underlying' {P : Program} {t : TypeId} {d : TypeDesc} (h : P.underlying t = some d) (w : World) : (underlying t).run P w = .ok d w := by simp [underlying, h]

theorem part_run {P : Program} {t : TypeId} {cs : Array Value} {off n : Nat} {d : TypeDesc} (hd : P.underlying t = some d) (hn : sizeT P t = some n) {k : Value → Prop} (h : Fld (isAggT P t) off n (.agg cs) k) :
    ∃ v, (∀ w, (part t cs off).run P w = .ok v w) ∧ k v := by
  unfold Fld at h
  simp only at h
  cases ha : isAggT P t with
  | true =>
    rw [ha] at h
    exact ⟨_, fun w => by simp [part, run_isAgg t hd, ha, run_sizeOf t hn], h⟩
  | false =>
    rw [ha] at h
    simp only [cond_false] at h
    split at h
    · rename_i v hv
      exact ⟨v, fun w => by simp [part, run_isAgg t hd, ha, hv], h⟩
    · exact h.elim

theorem VPure_sound {P : Program} {S : World → Prop} {o : Oper} {ρ : Operand → Value} {k : Value → Prop} (h : VPure P S o ρ k) :
    ∃ v, (∀ w, S w → (execOp ρ o).run P w = .ok (.value v) w) ∧ k v := by
  have lift : ∀ {s : Sem Value} {k : Value → Prop}, (∃ v, (∀ w, S w → s.run P w = .ok v w) ∧ k v) → ∃ v, (∀ w, S w → (do pure (Next.value (← s)) : Sem Next).run P w = .ok (.value v) w) ∧ k v :=
    fun ⟨v, hv, hk⟩ => ⟨v, fun w hw => by simp [hv w hw], hk⟩
  unfold VPure at h
  unfold execOp
  split at h <;> rename_i ho <;> simp only [ho]
  · exact ⟨_, fun w _ => rfl, h⟩
  · exact ⟨_, fun w _ => rfl, h⟩
  · unfold Pick at h
    split at h
    · rename_i c hc
      refine ⟨_, fun w _ => ?_, h⟩
      cases c <;> simp [hc, asBool]
    · exact h.elim
  · unfold NilC at h
    split at h
    · rename_i a ha
      exact ⟨_, fun w _ => by simp [ha], h⟩
    · exact h.elim
  · exact lift (Bin_sound h)
  · exact lift (Un_sound h)
  · split at h
    · rename_i κ0 κ h1 h2
      unfold ConvI at h
      split at h
      · rename_i n hx
        refine ⟨_, fun w _ => ?_, h⟩
        have e1 := intT_some h1
        have e2 := intT_some h2
        simp [convert, run_underlying' e1, run_underlying' e2, hx, Conv.intToInt]
      · exact h.elim
    · exact h.elim
  · split at h
    · rename_i fs hu
      split at h
      · rename_i fd hf
        split at h
        · rename_i n hn
          unfold FAd at h
          split at h
          · rename_i a ha
            refine ⟨_, fun w _ => ?_, h⟩
            have hf' := hf
            rw [Array.getElem?_toList] at hf'
            simp [Instr.fieldAt, run_underlying' hu, hf', Instr.sureAddr, ha, fieldPlace, run_sizeOf _ hn]
          · exact h.elim
        · exact h.elim
      · exact h.elim
    · exact h.elim
  · split at h
    · rename_i fs hu
      split at h
      · rename_i fd hf
        split at h
        · rename_i d n hd hn
          generalize hx : ρ _ = x at h ⊢
          cases x with
          | agg cs =>
            obtain ⟨v, hv, hk⟩ := part_run hd hn h
            have hf' := hf
            rw [Array.getElem?_toList] at hf'
            exact ⟨v, fun w _ => by simp [Instr.field, run_underlying' hu, hf', asAgg, hv w], hk⟩
          | _ => exact (show False from h).elim
        · exact h.elim
      · exact h.elim
    · exact h.elim
  · split at h
    · rename_i e hu
      split at h
      · rename_i n hn
        unfold IAdS at h
        split at h
        · rename_i a len cap κ i hx hi
          obtain ⟨h0, h1, hk⟩ := h
          exact ⟨_, fun w _ => by simp [Instr.indexAt, hx, hi, asIntOf, run_underlying' hu, h0, h1, run_sizeOf _ hn], hk⟩
        · exact h.elim
      · exact h.elim
    · rename_i len e hu
      split at h
      · rename_i n hn
        unfold IAdA at h
        split at h
        · rename_i a κ i hx hi
          obtain ⟨h0, h1, hk⟩ := h
          exact ⟨_, fun w _ => by simp [Instr.indexAt, hx, hi, asIntOf, run_underlying' hu, h0, h1, run_sizeOf _ hn, Instr.sureAddr], hk⟩
        · exact h.elim
      · exact h.elim
    · exact h.elim
  · split at h
    · rename_i len e hu
      split at h
      · rename_i d n hd hn
        unfold IxA at h
        split at h
        · rename_i κ i hi
          obtain ⟨h0, h1, h⟩ := h
          generalize hx : ρ _ = x at h ⊢
          cases x with
          | agg cs =>
            obtain ⟨v, hv, hk⟩ := part_run hd hn h
            exact ⟨v, fun w _ => by simp [Instr.index, run_underlying' hu, hi, asIntOf, h0, h1, run_sizeOf _ hn, hv w], hk⟩
          | _ => exact (show False from h).elim
        · exact h.elim
      · exact h.elim
    · rename_i hu
      unfold IxS at h
      split at h
      · rename_i s κ i hx hi
        obtain ⟨⟨h0, h1⟩, hk⟩ := h
        refine ⟨_, fun w _ => ?_, hk⟩
        simp [Instr.index, run_underlying' hu, hx, hi, asIntOf, h0, h1]
      · exact h.elim
    · exact h.elim
  · split at h
    · rename_i e hu
      split at h
      · rename_i n hn
        unfold SlcS at h
        split at h
        · rename_i a len cap hx
          obtain ⟨l, hh, m, hb, hk⟩ := bnds_run (P := P) true h
          refine ⟨_, fun w _ => ?_, hk⟩
          cases hq : Nat.beq m l with
          | true => have : m = l := by simpa using hq
                    simp [Instr.sliceAt, Instr.slice, run_underlying' hu, hx, hb w, run_sizeOf _ hn, this]
          | false => have : m ≠ l := by intro e; subst e; simp at hq
                     simp [Instr.sliceAt, Instr.slice, run_underlying' hu, hx, hb w, run_sizeOf _ hn, this]
        · exact h.elim
      · exact h.elim
    · rename_i len e hu
      split at h
      · rename_i n hn
        unfold SlcA at h
        split at h
        · rename_i a hx
          obtain ⟨l, hh, m, hb, hk⟩ := bnds_run (P := P) false h
          refine ⟨_, fun w _ => ?_, hk⟩
          cases hq : Nat.beq m l with
          | true => have : m = l := by simpa using hq
                    simp [Instr.sliceAt, run_underlying' hu, hx, hb w, run_sizeOf _ hn, this, Instr.sureAddr]
          | false => have : m ≠ l := by intro e; subst e; simp at hq
                     simp [Instr.sliceAt, run_underlying' hu, hx, hb w, run_sizeOf _ hn, this, Instr.sureAddr]
        · exact h.elim
      · exact h.elim
    · rename_i hu
      split at h
      · unfold SlcT at h
        split at h
        · rename_i s hx
          obtain ⟨l, hh, m, hb, hk⟩ := bnds_run (P := P) false h
          exact ⟨_, fun w _ => by simp [Instr.sliceAt, Instr.slice, run_underlying' hu, hx, hb w], hk⟩
        · exact h.elim
      · exact h.elim
    · exact h.elim
  · unfold Ext at h
    split at h
    · rename_i vs hx
      split at h
      · rename_i v hv
        exact ⟨v, fun w _ => by simp [Instr.extract, hx, hv], h⟩
      · exact h.elim
    · exact h.elim
  · rename_i t parts
    have e : (parts.map fun (i, x) => (i, ρ x)).toList = parts.toList.map fun p => (p.1, ρ p.2) := by simp
    rw [← e] at h
    obtain ⟨v, hv, hk⟩ := Bld_sound h
    exact ⟨v, fun w _ => by simp [hv w], hk⟩
  · refine ⟨_, fun w _ => ?_, h⟩
    have e : ∀ l : Array Operand, (l.toList.map ρ).toArray = l.map ρ := fun l => by apply Array.ext'; simp
    simp [Instr.makeFunc, e]
  · exact lift (Ld_sound h)
  · rename_i c
    have e : ∀ l : Array Operand, (l.toList.map ρ).toArray = l.map ρ := fun l => by apply Array.ext'; simp
    split at h
    · rename_i hc
      split at h
      · rename_i t ts x xs h1 h2
        have ht : c.argTypes[0]? = some t := by rw [← Array.getElem?_toList, h1]; rfl
        have hx : c.args[0]? = some x := by rw [← Array.getElem?_toList, h2]; rfl
        split at h
        · rename_i el hu
          unfold Len at h
          split at h
          · rename_i a n cp hv
            exact ⟨_, fun w _ => by simp [resolve, hc, invoke, builtin, Builtin.len_, ht, hx, run_underlying' hu, hv, goInt], h⟩
          · exact h.elim
        · rename_i hu
          unfold LenT at h
          split at h
          · rename_i s hv
            exact ⟨_, fun w _ => by simp [resolve, hc, invoke, builtin, Builtin.len_, ht, hx, run_underlying' hu, hv, goInt], h⟩
          · exact h.elim
        · rename_i n el hu
          exact ⟨_, fun w _ => by simp [resolve, hc, invoke, builtin, Builtin.len_, ht, hx, run_underlying' hu, goInt], h⟩
        · exact h.elim
      · exact h.elim
    · rename_i hc
      obtain ⟨v, hv, hk⟩ := h
      exact ⟨v, fun w hw => by have := hv w hw; rw [e] at this; simp [resolve, hc, invoke, builtin, this], hk⟩
    · rename_i hc
      obtain ⟨v, hv, hk⟩ := h
      exact ⟨v, fun w hw => by have := hv w hw; rw [e] at this; simp [resolve, hc, invoke, builtin, this], hk⟩
    · rename_i hc
      obtain ⟨v, hv, hk⟩ := h
      exact ⟨v, fun w hw => by have := hv w hw; rw [e] at this; simp [resolve, hc, invoke, builtin, this], hk⟩
    · exact h.elim
  · exact h.elim

theorem pureOp_noDefer {P : Program} {o : Oper} (h : pureOp P o = true) : noDefer o = true := by
  unfold pureOp at h
  unfold noDefer
  split <;> simp_all

/-- A call of a function value. -/
def CallV (P : Program) (fv : Value) (args : Array Value) (w : World) (k : Value → World → Prop) : Prop :=
  Upon P (do let d ← Deferred.ofValue fv args; invoke d.target d.args) w k
/-- A call of a function that is named. -/
def CallF (P : Program) (f : FuncId) (args : Array Value) (w : World) (k : Value → World → Prop) : Prop := Upon P (callFunc f args) w k

def VEff (P : Program) (o : Oper) (ρ : Operand → Value) (w : World) (k : Value → World → Prop) : Prop :=
  match o.op with
  | .alloc t => Do P (Instr.alloc t true (.tuple #[])) w k
  | .box t x => Do P (Instr.box t (ρ x)) w k
  | .buildSlice t n parts => Do P (Instr.buildSlice t n (parts.toList.map fun p => (p.1, ρ p.2)).toArray) w k
  | .store t a x => DoU P (Instr.storeAt t (ρ a) (ρ x)) w k
  | .convert s d x => Do P (convert s d (ρ x)) w k
  | .makeSlice t l c => Do P (Instr.makeSlice t (ρ l) (ρ c)) w k
  | .makeInterface t x => Do P (Instr.makeInterface t (ρ x)) w k
  | .call c =>
    (match c.callee with
     | .builtin .append => Do P (Builtin.append_ c.argTypes o.type (c.args.toList.map ρ).toArray) w k
     | .builtin .copy => Do P (Builtin.copy_ c.argTypes o.type (c.args.toList.map ρ).toArray) w k
     | .builtin _ => Upon P (execOp ρ o) w k
     | .value (.func f) => CallF P f (c.args.toList.map ρ).toArray w k
     | .value x => CallV P (ρ x) (c.args.toList.map ρ).toArray w k
     | .invoke .. => Upon P (execOp ρ o) w k)
  | _ => Upon P (execOp ρ o) w k

theorem upon_do {P : Program} {s : Sem Value} {w : World} {k : Value → World → Prop} (h : Do P s w k) : Upon P (do pure (Next.value (← s)) : Sem Next) w k := by
  obtain ⟨v, w', hr, hk⟩ := h
  simp [Upon, hr, hk]
theorem upon_doU {P : Program} {s : Sem Unit} {w : World} {k : Value → World → Prop} (h : DoU P s w k) : Upon P (do s; pure Next.skip : Sem Next) w k := by
  obtain ⟨w', hr, hk⟩ := h
  simp [Upon, hr, hk]

theorem VEff_sound {P : Program} {o : Oper} {ρ : Operand → Value} {w : World} {k : Value → World → Prop} (hf : ∀ f, ρ (.func f) = .func (.func f) #[] #[]) (h : VEff P o ρ w k) : Upon P (execOp ρ o) w k := by
  have e : ∀ l : Array Operand, (l.toList.map ρ).toArray = l.map ρ := fun l => by apply Array.ext'; simp
  unfold VEff at h
  split at h
  · rename_i ho; unfold execOp; rw [ho]; exact upon_do h
  · rename_i ho; unfold execOp; rw [ho]; exact upon_do h
  · rename_i t n parts ho
    unfold execOp; rw [ho]
    have e2 : (parts.toList.map fun p => (p.1, ρ p.2)).toArray = parts.map fun (i, x) => (i, ρ x) := by apply Array.ext'; simp
    rw [e2] at h
    exact upon_do h
  · rename_i ho; unfold execOp; rw [ho]; exact upon_doU h
  · rename_i ho; unfold execOp; rw [ho]; exact upon_do h
  · rename_i ho; unfold execOp; rw [ho]; exact upon_do h
  · rename_i ho; unfold execOp; rw [ho]; exact upon_do h
  · rename_i c ho
    split at h
    · rename_i hc
      rw [e] at h
      have : execOp ρ o = (do pure (Next.value (← Builtin.append_ c.argTypes o.type (c.args.map ρ))) : Sem Next) := by
        unfold execOp; rw [ho]; simp [resolve, hc, invoke, builtin]
      rw [this]; exact upon_do h
    · rename_i hc
      rw [e] at h
      have : execOp ρ o = (do pure (Next.value (← Builtin.copy_ c.argTypes o.type (c.args.map ρ))) : Sem Next) := by
        unfold execOp; rw [ho]; simp [resolve, hc, invoke, builtin]
      rw [this]; exact upon_do h
    · exact h
    · rename_i f hc
      rw [e] at h
      have : execOp ρ o = callFunc f (c.args.map ρ) := by
        unfold execOp; rw [ho]; simp [resolve, hc, hf, Deferred.ofValue, invoke]
      rw [this]; exact h
    · rename_i x hx hc
      rw [e] at h
      have : execOp ρ o = (do let d ← Deferred.ofValue (ρ x) (c.args.map ρ); invoke d.target d.args : Sem Next) := by
        unfold execOp; rw [ho]; simp [resolve, hc]
      rw [this]; exact h
    · exact h
  · exact h

def vOp (P : Program) (S : World → Prop) (E : Env) (o : Oper) (w : World) (k : Value → World → Prop) : Prop :=
  bif E.has o then (bif pureOp P o then VPure P S o E.v (fun v => k v w) else VEff P o E.v w k) else False

theorem vOp_sound {P : Program} {S : World → Prop} {E : Env} {o : Oper} {w : World} {k : Value → World → Prop} {a : Act} (hs : Sim E a) (hn : noDefer o = true) (hS : S w) (h : vOp P S E o w k) :
    Upon P (execOp a.eval o) w k := by
  unfold vOp at h
  cases hh : E.has o with
  | false => rw [hh] at h; exact h.elim
  | true =>
    rw [hh] at h
    have hc : execOp a.eval o = execOp E.v o := execOp_congr o (fun cs b e => by simp [noDefer, e] at hn) (hs.has hh)
    rw [hc]
    cases hp : pureOp P o with
    | true =>
      rw [hp] at h
      simp only [cond_true] at h
      obtain ⟨v, hv, hk⟩ := VPure_sound h
      simp only [Upon, hv w hS]
      exact hk
    | false =>
      rw [hp] at h
      simp only [cond_true, cond_false] at h
      exact VEff_sound (fun f => rfl) h
theorem vOp_pure {P : Program} {S : World → Prop} {E : Env} {o : Oper} {w : World} {k : Value → World → Prop} {a : Act} (hs : Sim E a) (hp : pureOp P o = true) (h : vOp P S E o w k) :
    ∃ v, (∀ w', S w' → (execOp a.eval o).run P w' = .ok (.value v) w') ∧ k v w := by
  unfold vOp at h
  cases hh : E.has o with
  | false => rw [hh] at h; exact h.elim
  | true =>
    rw [hh, hp] at h
    have hn := pureOp_noDefer hp
    have hc : execOp a.eval o = execOp E.v o := execOp_congr o (fun cs b e => by simp [noDefer, e] at hn) (hs.has hh)
    rw [hc]
    simp only [cond_true] at h
    exact VPure_sound h

/-! ### Guards -/
def isB (c : Value) (want : Bool) : Bool := match c with | .bool b => b == want | _ => false
/-- An operation that is carried out only where g holds. -/
def Gd (g : Bool) (A : (Value → World → Prop) → Prop) (w : World) (k : Value → World → Prop) : Prop :=
  ∃ R : Value → World → Prop, (g = true → A R) ∧ (g = false → R undef w) ∧ ∀ v w', R v w' → k v w'
/-- The same for one that changes nothing. -/
def GdP (g : Bool) (A : (Value → Prop) → Prop) (k : Value → Prop) : Prop :=
  ∃ v, (g = true → A (fun u => u = v)) ∧ (g = false → v = undef) ∧ k v
def vG (P : Program) (S : World → Prop) (ops : Array Oper) (o : Oper) (E : Env) (w : World) (k : Value → World → Prop) : Prop :=
  match o.guard with
  | none => vOp P S E o w k
  | some (j, want) =>
    match ops.toList[j]? with
    | some oj => (match oj.dst with
      | some d => (match getL E.m d with
        | some c => bif pureOp P o then GdP (isB c want) (fun R => vOp P S E o w (fun v _ => R v)) (fun v => k v w) else Gd (isB c want) (fun R => vOp P S E o w R) w k
        | none => False)
      | none => False)
    | none => False

theorem wanted_of {ops : Array Oper} {o : Oper} {E : Env} {a : Act} {j : Nat} {want : Bool} {oj : Oper} {d : Nat} {c : Value} (hs : Sim E a) (hg : o.guard = some (j, want)) (hj : ops.toList[j]? = some oj) (hd : oj.dst = some d)
    (hc : getL E.m d = some c) : Region.wanted o (yielded ops a.tmps) = isB c want := by
  have hjj : ops[j]? = some oj := by rw [← Array.getElem?_toList]; exact hj
  have h1 := hs.m d c hc
  unfold Region.wanted yielded
  simp only [hg, hjj, Option.bind_some, hd]
  rw [Array.getD_eq_getD_getElem?] at h1
  cases hq : a.tmps[d]? with
  | none =>
    rw [hq] at h1
    simp only [Option.getD_none] at h1
    subst h1
    simp [isB, undef]
  | some u =>
    rw [hq] at h1
    simp only [Option.getD_some] at h1
    subst h1
    cases u <;> simp [isB]

theorem vG_sound {P : Program} {S : World → Prop} {ops : Array Oper} {i : Nat} {o : Oper} {E : Env} {w : World} {k : Value → World → Prop} {a : Act} {K : Act → World → Prop} (hi : ops[i]? = some o) (hs : Sim E a) (hn : noDefer o = true) (hS : S w)
    (h : vG P S ops o E w k) (hK : ∀ v w', k v w' → K (a.put o.dst v) w') : rOp P ops i K a w := by
  unfold rOp
  simp only [hi]
  unfold vG at h
  split at h
  · rename_i hg
    rw [if_pos (by simp [Region.wanted, hg])]
    exact Upon.mono (fun v w' hk => hK v w' hk) (vOp_sound hs hn hS h)
  · rename_i j want hg
    split at h
    · rename_i oj hj
      split at h
      · rename_i d hd
        split at h
        · rename_i c hc
          rw [wanted_of hs hg hj hd hc]
          cases hp : pureOp P o with
          | true =>
            rw [hp] at h
            obtain ⟨v, h1, h2, hk⟩ := h
            cases hb : isB c want with
            | true =>
              simp only [if_true]
              exact Upon.mono (fun u w' hu => by obtain ⟨rfl, rfl⟩ := hu; exact hK _ _ hk) (show Upon P (execOp a.eval o) w (fun u w' => u = v ∧ w' = w) from by
                obtain ⟨x, hx, hxv⟩ := vOp_pure hs hp (h1 hb)
                simp only [Upon, hx w hS]
                exact ⟨hxv, trivial⟩)
            | false =>
              simp only [Bool.false_eq_true, if_false]
              have := h2 hb
              subst this
              exact hK _ _ hk
          | false =>
            rw [hp] at h
            obtain ⟨R, h1, h2, hk⟩ := h
            cases hb : isB c want with
            | true =>
              simp only [if_true]
              exact Upon.mono (fun v w' hr => hK v w' (hk v w' hr)) (vOp_sound hs hn hS (h1 hb))
            | false =>
              simp only [Bool.false_eq_true, if_false]
              exact hK _ _ (hk _ _ (h2 hb))
        · exact h.elim
      · exact h.elim
    · exact h.elim

theorem vG_pure {P : Program} {S : World → Prop} {ops : Array Oper} {o : Oper} {E : Env} {w : World} {k : Value → World → Prop} {a : Act} (hs : Sim E a) (hp : pureOp P o = true)
    (h : vG P S ops o E w k) : ∃ v, Yld P ops S o v a ∧ k v w := by
  unfold vG at h
  split at h
  · rename_i hg
    obtain ⟨v, hv, hk⟩ := vOp_pure hs hp h
    exact ⟨v, .inl ⟨by simp [Region.wanted, hg], hv⟩, hk⟩
  · rename_i j want hg
    split at h
    · rename_i oj hj
      split at h
      · rename_i d hd
        split at h
        · rename_i c hc
          rw [hp] at h
          obtain ⟨v, h1, h2, hk⟩ := h
          have hw := wanted_of hs hg hj hd hc
          cases hb : isB c want with
          | true =>
            obtain ⟨x, hx, hxv⟩ := vOp_pure hs hp (h1 hb)
            exact ⟨v, .inl ⟨hw.trans hb, fun w' hw' => by rw [hx w' hw', hxv]⟩, hk⟩
          | false => exact ⟨v, .inr ⟨hw.trans hb, h2 hb⟩, hk⟩
        · exact h.elim
      · exact h.elim
    · exact h.elim

/-! ### Regions -/
def At (w : World) : World → Prop := fun w' => w' = w
def vOps (P : Program) (ops : Array Oper) : List Oper → Env → World → (Env → World → Prop) → Prop
  | [], E, w, k => k E w
  | o :: os, E, w, k => vG P (At w) ops o E w fun v w' => vOps P ops os (E.put o.dst v) w' k

theorem vOps_sound {P : Program} {ops : Array Oper} (hd : ∀ (i : Nat) o, ops[i]? = some o → noDefer o = true) {K : Act → World → Prop} {k : Env → World → Prop} {G : Env → Prop} (hG : ∀ (i : Nat) o, ops[i]? = some o → ∀ E v, G E → G (E.put o.dst v)) (hK : ∀ E a w, Sim E a → G E → k E w → K a w) :
    ∀ (l : List Oper) (i : Nat), (∀ j, l[j]? = ops[i + j]?) → ∀ (E : Env) (a : Act) (w : World), Sim E a → G E → vOps P ops l E w k → rOps P ops K (List.range' i l.length) a w
  | [], i, _, E, a, w, hs, hg, h => hK E a w hs hg h
  | o :: l, i, hl, E, a, w, hs, hg, h => by
    have h0 : ops[i]? = some o := by simpa using (hl 0).symm
    simp only [List.length_cons, List.range'_succ, rOps]
    refine vG_sound (S := At w) h0 hs (hd i o h0) rfl h fun v w' hk => ?_
    exact vOps_sound hd hG hK l (i + 1) (fun j => by have := hl (j + 1); simpa [Nat.add_assoc, Nat.add_comm 1 j] using this) _ _ _ (hs.put o.dst v) (hG i o h0 E v hg) hk

def firstFree (P : Program) (ops : Array Oper) (listed : Array Bool) (rs : List Nat) : Option Nat :=
  rs.find? fun j => match ops.toList[j]? with | some o => pureOp P o && Region.free .any ops listed j | none => false
def allL : List Nat → (Nat → Prop) → Prop
  | [], _ => True
  | [i], p => p i
  | i :: j :: l, p => p i ∧ allL (j :: l) p
theorem allL_mem : ∀ (l : List Nat) (p : Nat → Prop), allL l p → ∀ i ∈ l, p i
  | [], _, _, i, hi => by cases hi
  | [i], p, h, j, hj => by rw [List.mem_singleton] at hj; subst hj; exact h
  | i :: j :: l, p, h, x, hx => by
    rcases List.mem_cons.1 hx with rfl | hx
    · exact h.1
    · exact allL_mem (j :: l) p h.2 x hx
/-- May what it yields hang on the world? -/
def usesS (o : Oper) : Bool :=
  match o.op with
  | .load .. | .binOp .. | .unOp .. | .call _ => true
  | _ => false
/-- Behind which operations the promise is asked: those that some reading operation may come behind, or ahead of. -/
def needS (P : Program) (ops : Array Oper) (j : Nat) : Bool :=
  match ops.toList[j]? with
  | some oj => (List.range ops.size).any fun i => (!Nat.beq i j) && (match ops.toList[i]? with
    | some oi => usesS oi && pureOp P oi && !(oj.after.toList.any fun e => Region.binds .any e && Nat.beq e.on i)
    | none => false)
  | none => false
theorem needS_of {P : Program} {ops : Array Oper} {i j : Nat} {oi oj : Oper} (hi : ops[i]? = some oi) (hj : ops[j]? = some oj) (hne : j ≠ i) (hu : usesS oi = true) (hp : pureOp P oi = true)
    (hn : ∀ e ∈ oj.after, Region.binds .any e = true → e.on ≠ i) : needS P ops j = true := by
  unfold needS
  rw [Array.getElem?_toList, hj]
  simp only [List.any_eq_true, List.mem_range]
  refine ⟨i, (Array.getElem?_eq_some_iff.1 hi).1, ?_⟩
  rw [Array.getElem?_toList, hi]
  simp only [hu, hp, Bool.true_and, Bool.and_eq_true, Bool.not_eq_true']
  refine ⟨?_, ?_⟩
  · cases hq : Nat.beq i j with
    | false => rfl
    | true => exact absurd (by simpa using hq : i = j).symm hne
  · rw [List.any_eq_false]
    intro e he hb
    rw [Bool.and_eq_true] at hb
    exact hn e (by simpa using he) hb.1 (by simpa using hb.2)
theorem VPure_any {P : Program} {S S' : World → Prop} {o : Oper} {ρ : Operand → Value} {k : Value → Prop} (hu : usesS o = false) (h : VPure P S o ρ k) : VPure P S' o ρ k := by
  unfold VPure at h ⊢
  unfold usesS at hu
  split at hu
  · cases hu
  · cases hu
  · cases hu
  · cases hu
  · rename_i h1 h2 h3 h4
    split at h <;> first | exact h | (exfalso; first | exact h1 _ _ (by assumption) | exact h2 _ _ _ _ _ (by assumption) | exact h3 _ _ _ (by assumption) | exact h4 _ (by assumption))
/-- What is asked behind an operation that changes the world. -/
def andS (P : Program) (S : World → Prop) (ops : Array Oper) (j : Nat) (o : Oper) (w' : World) (p : Prop) : Prop := bif needS P ops j && !pureOp P o then S w' ∧ p else p
def vAny (P : Program) (S : World → Prop) (ops : Array Oper) : Nat → Array Bool → Env → World → (Env → World → Prop) → Prop
  | 0, listed, E, w, k => (match Region.ready .any ops listed with | [] => k E w | _ :: _ => False)
  | n + 1, listed, E, w, k =>
    (match Region.ready .any ops listed with
     | [] => k E w
     | r :: rs => (match firstFree P ops listed (r :: rs) with
       | some j => (match ops.toList[j]? with
         | some o => vG P S ops o E w fun v w' => vAny P S ops n (listed.setIfInBounds j true) (E.put o.dst v) w k
         | none => False)
       | none => allL (r :: rs) fun j => (match ops.toList[j]? with
         | some o => vG P (At w) ops o E w fun v w' => andS P S ops j o w' (vAny P S ops n (listed.setIfInBounds j true) (E.put o.dst v) w' k)
         | none => False)))

theorem vG_pure' {P : Program} {S : World → Prop} {ops : Array Oper} {o : Oper} {E : Env} {w : World} {k : Value → World → Prop} {a : Act} (hs : Sim E a) (hp : pureOp P o = true) (hu : usesS o = false)
    (h : vG P S ops o E w k) : ∃ v, Yld P ops (fun _ => True) o v a ∧ k v w := by
  have key : ∀ {w : World} {k : Value → World → Prop}, vOp P S E o w k → vOp P (fun _ => True) E o w k := by
    intro w k h
    unfold vOp at h ⊢
    cases hh : E.has o with
    | false => rw [hh] at h; exact h
    | true =>
      rw [hh, hp] at h
      rw [hp]
      simp only [cond_true] at h ⊢
      exact VPure_any hu h
  refine vG_pure hs hp (S := fun _ => True) ?_
  unfold vG at h ⊢
  split at h
  · rename_i hg
    exact key h
  · rename_i j want hg
    split at h
    · split at h
      · split at h
        · rename_i hd _ hc
          simp only [*]
          rw [hp] at h
          obtain ⟨v, h1, h2, hk⟩ := h
          exact ⟨v, fun hb => key (h1 hb), h2, hk⟩
        · exact h.elim
      · exact h.elim
    · exact h.elim

theorem vAny_sound {P : Program} {S : World → Prop} {ops : Array Oper} (hd : ∀ (i : Nat) o, ops[i]? = some o → noDefer o = true) {K : Act → World → Prop} {k : Env → World → Prop} {G : Env → Prop} (hG : ∀ (i : Nat) o, ops[i]? = some o → ∀ E v, G E → G (E.put o.dst v)) (hK : ∀ E a w, Sim E a → G E → k E w → K a w) :
    ∀ (n : Nat) (listed : Array Bool) (E : Env) (a : Act) (w : World), Sim E a → (∀ i o, ops[i]? = some o → listed.getD i true = false → usesS o = true → pureOp P o = true → S w) → G E → vAny P S ops n listed E w k → rAny P ops K S (needS P ops) n listed a w
  | 0, listed, E, a, w, hs, hS, hg, h => by
    unfold vAny at h
    split at h
    · rename_i hr; exact ⟨hr, hK E a w hs hg h⟩
    · exact h.elim
  | n + 1, listed, E, a, w, hs, hS, hg, h => by
    have later : ∀ (j : Nat) (listed' : Array Bool), listed' = listed.setIfInBounds j true → ∀ i, listed'.getD i true = false → listed.getD i true = false ∧ i ≠ j := by
      intro j listed' e i hi
      subst e
      by_cases hij : j = i
      · subst hij
        rw [Array.getD_eq_getD_getElem?, Array.getElem?_setIfInBounds] at hi
        simp only [if_true] at hi
        split at hi <;> simp at hi
      · rw [getD_set_ne true hij] at hi
        exact ⟨hi, Ne.symm hij⟩
    unfold vAny at h
    split at h
    · rename_i hr
      exact ⟨fun _ => hK E a w hs hg h, fun i hi => by rw [hr] at hi; cases hi⟩
    · rename_i r rs hr
      split at h
      · rename_i j hj
        split at h
        · rename_i o ho
          have hoj : ops[j]? = some o := by rw [← Array.getElem?_toList]; exact ho
          have hfind := List.find?_some hj
          simp only [ho, Bool.and_eq_true] at hfind
          have hjr : j ∈ Region.ready .any ops listed := by rw [hr]; exact List.mem_of_find?_eq_some hj
          have hjun : listed.getD j true = false := (mem_ready.1 hjr).1
          cases hu : usesS o with
          | true =>
            obtain ⟨v, hy, hk⟩ := vG_pure hs hfind.1 h
            exact rAny_first (Si := S) hoj hd (fun _ h => h) (.inl fun j' oj' hj' hne hno => needS_of hoj hj' hne hu hfind.1 hno) n listed a w (Region.free_spec hoj hfind.2) hjr hy (hS j o hoj hjun hu hfind.1)
              (vAny_sound hd hG hK n _ _ _ w (hs.put o.dst v) (fun i oi hi hun hui hpi => hS i oi hi (later j _ rfl i hun).1 hui hpi) (hG j o hoj E v hg) hk)
          | false =>
            obtain ⟨v, hy, hk⟩ := vG_pure' hs hfind.1 hu h
            exact rAny_first (Si := fun _ => True) hoj hd (fun _ _ => trivial) (.inr fun _ => trivial) n listed a w (Region.free_spec hoj hfind.2) hjr hy trivial
              (vAny_sound hd hG hK n _ _ _ w (hs.put o.dst v) (fun i oi hi hun hui hpi => hS i oi hi (later j _ rfl i hun).1 hui hpi) (hG j o hoj E v hg) hk)
        · exact h.elim
      · refine ⟨fun h0 => (by rw [hr] at h0; cases h0), fun i hi => ?_⟩
        have hir := hi
        rw [hr] at hi
        have := allL_mem _ _ h i hi
        split at this
        · rename_i o ho
          have hoj : ops[i]? = some o := by rw [← Array.getElem?_toList]; exact ho
          obtain ⟨_, oi', hoi', hall⟩ := mem_ready.1 hir
          obtain rfl : oi' = o := by rw [hoj] at hoi'; exact (Option.some.inj hoi').symm
          have hnd : ∀ i' o', ops[i']? = some o' → (listed.setIfInBounds i true).getD i' true = false → usesS o' = true → pureOp P o' = true → needS P ops i = true := by
            intro i' o' hi' hun hu hp
            obtain ⟨hun', hne⟩ := later i _ rfl i' hun
            refine needS_of hi' hoj (Ne.symm hne) hu hp fun e he hb heq => ?_
            have h1 := hall e he hb
            rw [heq] at h1
            rcases Nat.lt_or_ge i' listed.size with h' | h'
            · simp [h'] at hun' h1; rw [hun'] at h1; cases h1
            · simp [Array.getElem?_eq_none h'] at h1
          cases hp : pureOp P oi' with
          | true =>
            obtain ⟨v, hy, hk⟩ := vG_pure (S := At w) hs hp this
            have hk' : vAny P S ops n (listed.setIfInBounds i true) (E.put oi'.dst v) w k := by simpa [andS, hp] using hk
            exact hy.rOp hoj rfl ⟨fun _ => .inl rfl, vAny_sound hd hG hK n _ _ _ w (hs.put _ v) (fun i' o' hi' hun hu hp' => hS i' o' hi' (later i _ rfl i' hun).1 hu hp') (hG i _ hoj E v hg) hk'⟩
          | false =>
            refine vG_sound (S := At w) hoj hs (hd i _ hoj) rfl this fun v w' hk => ?_
            unfold andS at hk
            rw [hp] at hk
            cases hn : needS P ops i with
            | true =>
              rw [hn] at hk
              exact ⟨fun _ => .inr hk.1, vAny_sound hd hG hK n _ _ _ w' (hs.put _ v) (fun _ _ _ _ _ _ => hk.1) (hG i _ hoj E v hg) hk.2⟩
            | false =>
              rw [hn] at hk
              exact ⟨fun h => (by cases h), vAny_sound hd hG hK n _ _ _ w' (hs.put _ v) (fun i' o' hi' hun hu hp' => by have := hnd i' o' hi' hun hu hp'; rw [hn] at this; cases this) (hG i _ hoj E v hg) hk⟩
        · exact this.elim

/-- Does an order matter in the region, as far as one way through it shows? -/
def branchy (P : Program) (ops : Array Oper) : Nat → Array Bool → Bool
  | 0, _ => false
  | n + 1, listed =>
    (match Region.ready .any ops listed with
     | [] => false
     | r :: rs => (match firstFree P ops listed (r :: rs) with
       | some j => branchy P ops n (listed.setIfInBounds j true)
       | none => (match rs with | [] => branchy P ops n (listed.setIfInBounds r true) | _ :: _ => true)))
end Go.Vc

set_option linter.unusedVariables false
set_option linter.unusedSimpArgs false
namespace Go.Vc
open Go

def memb : List Nat → Nat → Bool
  | [], _ => false
  | s :: l, t => Nat.beq s t || memb l t
theorem memb_append (l l' : List Nat) (t : Nat) : memb (l ++ l') t = (memb l t || memb l' t) := by
  induction l with
  | nil => rfl
  | cons s l ih => simp [memb, ih, Bool.or_assoc]
def wrOps : List Oper → List Nat
  | [] => []
  | o :: l => match o.dst with | some d => d :: wrOps l | none => wrOps l
theorem wrOps_mem (o : Oper) (d : Nat) (hd : o.dst = some d) (l : List Oper) (ho : o ∈ l) : memb (wrOps l) d = true := by
  induction l with
  | nil => cases ho
  | cons o' l ih =>
    unfold wrOps
    rcases List.mem_cons.1 ho with h | h
    · rw [← h, hd]; simp [memb]
    · have := ih h
      split <;> simp [memb, this]
/-- The temporaries that a piece of code writes. -/
def wr : Code → List Nat
  | .region _ ops _ => wrOps ops.toList
  | .seq a b => wr a ++ wr b
  | .cond _ a b => wr a ++ wr b
  | .block _ c => wr c
  | .loop c => wr c
  | .scope c => wr c
  | _ => []
/-- May its end be come to? -/
def falls : Code → Bool
  | .seq a b => falls a && falls b
  | .cond _ a b => falls a || falls b
  | .block id c => falls c || leavesTo id c
  | .scope c => falls c
  | .loop _ | .exit _ | .ret | .goto _ => false
  | _ => true
where leavesTo (id : Nat) : Code → Bool
  | .exit j => Nat.beq j id
  | .seq a b => leavesTo id a || leavesTo id b
  | .cond _ a b => leavesTo id a || leavesTo id b
  | .block _ c | .loop c | .scope c => leavesTo id c
  | _ => false
/-- How many ways lead out of a block. -/
def waysTo (id : Nat) : Code → Nat
  | .exit j => bif Nat.beq j id then 1 else 0
  | .seq a b => waysTo id a + waysTo id b
  | .cond _ a b => waysTo id a + waysTo id b
  | .block _ c | .loop c | .scope c => waysTo id c
  | .rangeFunc _ _ _ c => waysTo id c
  | _ => 0
/-- Does it hold a range over a function? -/
def hasRF : Code → Bool
  | .seq a b => hasRF a || hasRF b
  | .cond _ a b => hasRF a || hasRF b
  | .block _ c | .loop c | .scope c => hasRF c
  | .rangeFunc .. => true
  | _ => false
def addJ (l : List (Option Nat)) : List (Option Nat) → List (Option Nat)
  | [] => l
  | x :: xs => bif l.any (fun y => match x, y with | none, none => true | some a, some b => Nat.beq a b | _, _ => false) then addJ l xs else addJ (l ++ [x]) xs
/-- The jumps by which a round's body may leave it: a return, or an exit of a block. -/
def jumpsOf : Code → List (Option Nat)
  | .ret => [none]
  | .exit j => [some j]
  | .seq a b => addJ (jumpsOf a) (jumpsOf b)
  | .cond _ a b => addJ (jumpsOf a) (jumpsOf b)
  | .block id c => (jumpsOf c).filter fun y => match y with | some j => !Nat.beq j id | none => true
  | .loop c | .scope c => jumpsOf c
  | _ => []

def PredN : Nat → Type
  | 0 => World → Prop
  | n + 1 => Value → PredN n
def PredN.ap : (n : Nat) → PredN n → List Value → World → Prop
  | 0, J, [], w => J w
  | n + 1, J, v :: vs, w => PredN.ap n (J v) vs w
  | _, _, _, _ => False
def PredN.all : (n : Nat) → PredN n → (List Value → World → Prop) → Prop
  | 0, J, q => ∀ w, J w → q [] w
  | n + 1, J, q => ∀ v, PredN.all n (J v) fun vs w => q (v :: vs) w
theorem PredN.use : ∀ (n : Nat) (J : PredN n) (q : List Value → World → Prop), PredN.all n J q → ∀ (vs : List Value) (w : World), PredN.ap n J vs w → q vs w
  | 0, J, q, h, [], w, ha => h w ha
  | 0, J, q, h, v :: vs, w, ha => False.elim ha
  | n + 1, J, q, h, [], w, ha => False.elim ha
  | n + 1, J, q, h, v :: vs, w, ha => PredN.use n (J v) (fun vs w => q (v :: vs) w) (h v) vs w ha
def allA : Nat → (List Value → Prop) → Prop
  | 0, p => p []
  | n + 1, p => ∀ v, allA n fun vs => p (v :: vs)
theorem allA_use : ∀ (n : Nat) (p : List Value → Prop), allA n p → ∀ vs : List Value, vs.length = n → p vs
  | 0, p, h, [], _ => h
  | n + 1, p, h, v :: vs, hl => allA_use n _ (h v) vs (by simpa using hl)
theorem allA_mk : ∀ (n : Nat) (p : List Value → Prop), (∀ vs : List Value, vs.length = n → p vs) → allA n p
  | 0, p, h => h [] rfl
  | n + 1, p, h => fun v => allA_mk n _ fun vs hl => h (v :: vs) (by simp [hl])

def zipL : List Nat → List Value → List (Nat × Value)
  | t :: ts, v :: vs => (t, v) :: zipL ts vs
  | _, _ => []
def pickV (m : List (Nat × Value)) : List Nat → Option (List Value)
  | [] => some []
  | t :: ts => match getL m t with | some v => (match pickV m ts with | some vs => some (v :: vs) | none => none) | none => none
def filt (L : List Nat) (p : Nat → Bool) : List Nat :=
  match L with
  | [] => []
  | t :: l => bif p t then t :: filt l p else filt l p
/-- The slots that a join speaks of: those that are read elsewhere, that the code writes, and that have a value already. -/
def joinS (L W : List Nat) (E : Env) : List Nat := filt L fun t => memb W t && (getL E.m t).isSome
def joinE (L W : List Nat) (E : Env) (S : List Nat) (vs : List Value) : Env := { E with m := zipL S vs ++ keepL E.m (filt L fun t => !memb W t) }
def dsEq (a b : List Nat) (p : Prop) : Prop := match a, b with | [], [] => p | a, b => a = b ∧ p
theorem dsEq_use {a b : List Nat} {p : Prop} (h : dsEq a b p) : a = b ∧ p := by
  unfold dsEq at h
  split at h
  · exact ⟨rfl, h⟩
  · exact h
def atJ (S : List Nat) (J : PredN S.length) (ds : List Nat) (E' : Env) (w' : World) : Prop :=
  match pickV E'.m S with
  | some vs => dsEq ds E'.ds (PredN.ap S.length J vs w')
  | none => False
def jq (q : Exit → Env → World → Prop) (S : List Nat) (J : PredN S.length) (ds : List Nat) : Exit → Env → World → Prop
  | .normal, E', w' => atJ S J ds E' w'
  | e, E', w' => q e E' w'
def bq (id : Nat) (q : Exit → Env → World → Prop) : Exit → Env → World → Prop
  | .exit j, E', w' => bif Nat.beq j id then q .normal E' w' else q (.exit j) E' w'
  | e, E', w' => q e E' w'
def jbq (id : Nat) (q : Exit → Env → World → Prop) (S : List Nat) (J : PredN S.length) (ds : List Nat) : Exit → Env → World → Prop
  | .normal, E', w' => atJ S J ds E' w'
  | .exit j, E', w' => bif Nat.beq j id then atJ S J ds E' w' else q (.exit j) E' w'
  | e, E', w' => q e E' w'
def sq (k : Env → World → Prop) (q : Exit → Env → World → Prop) : Exit → Env → World → Prop
  | .normal, E', w' => k E' w'
  | e, E', w' => q e E' w'
/-- A join behind a range over a function: what marks there are is told too. -/
def atJD (S : List Nat) (J : List Nat → PredN S.length) (E' : Env) (w' : World) : Prop :=
  match pickV E'.m S with
  | some vs => PredN.ap S.length (J E'.ds) vs w'
  | none => False
def jbqD (id : Nat) (q : Exit → Env → World → Prop) (S : List Nat) (J : List Nat → PredN S.length) : Exit → Env → World → Prop
  | .normal, E', w' => atJD S J E' w'
  | .exit j, E', w' => bif Nat.beq j id then atJD S J E' w' else q (.exit j) E' w'
  | e, E', w' => q e E' w'
def jqD (q : Exit → Env → World → Prop) (S : List Nat) (J : List Nat → PredN S.length) : Exit → Env → World → Prop
  | .normal, E', w' => atJD S J E' w'
  | e, E', w' => q e E' w'
def If (c : Value) (A B : Prop) : Prop := match c with | .bool b => (b = true → A) ∧ (b = false → B) | _ => False

/-- The record of a range over a function, in one of its states. -/
def LO (r : Go.Loop) (st : LoopState) (pd : Option Code) : Obj := .loop { r with state := st, pending := pd }
def setO (w : World) (l : Nat) (o : Obj) : World := { w with heap := w.heap.setIfInBounds l o }
/-- The world in which the function that is ranged over is called. -/
def loopW (w : World) (r : Go.Loop) : World := { w with heap := (w.heap.push (.deferred (some []))).push (LO r .ready none) }
def yv (l : Nat) : Value := .func (.yield l) #[] #[]
def lazyRegion (ops : Array Oper) : Bool := ops.toList.all noDefer

def putsL : Env → List Nat → List Value → Env
  | E, p :: ps, x :: xs => putsL (E.put (some p) x) ps xs
  | E, _, _ => E
theorem putsL_sim : ∀ (ps : List Nat) (xs : List Value) (E : Env) (T : Array Value) (ds : List Deferred), Sim E ⟨T, ds⟩ → Sim (putsL E ps xs) ⟨(ps.zip xs).foldl (fun tmps (x : Nat × Value) => tmps.setIfInBounds x.1 x.2) T, ds⟩
  | [], xs, E, T, ds, h => by cases xs <;> exact h
  | p :: ps, [], E, T, ds, h => h
  | p :: ps, x :: xs, E, T, ds, h => putsL_sim ps xs (E.put (some p) x) _ ds (h.put (some p) x)

/-- A call of a function value that is Go text. -/
def CallE (P : Program) (fv : Value) (args : Array Value) (w : World) (k : Value → World → Prop) : Prop :=
  match (do let d ← Deferred.ofValue fv args; invoke d.target d.args : Sem Next).run P w with
  | .ok (.enter f args) w' => Calls P f args w' fun e w'' => ∃ v, e = .returned v ∧ k v w''
  | _ => False

/-- The ways in which a range over a function has ended: its body's jump, if a round left one, is taken up. -/
def loopEnd (q : Exit → Env → World → Prop) (r : Go.Loop) (l : Nat) (E : Env) (w3 : World) : List (Option Nat) → Prop → Prop
  | [], A => A
  | none :: js, A => A ∨ loopEnd q r l E w3 js (∃ st, w3.heap[l]? = some (LO r st (some .ret)) ∧ st ≠ .busy ∧ q .ret E (setO w3 l (LO r .exhausted (some .ret))))
  | some id :: js, A => A ∨ loopEnd q r l E w3 js (∃ st, w3.heap[l]? = some (LO r st (some (.exit id))) ∧ st ≠ .busy ∧ q (.exit id) E (setO w3 l (LO r .exhausted (some (.exit id)))))

def vCode (P : Program) (L : List Nat) : Bool → Code → Env → World → (Exit → Env → World → Prop) → Prop
  | _, .skip, E, w, q => q .normal E w
  | _, .label _, E, w, q => q .normal E w
  | _, .ret, E, w, q => q .ret E w
  | _, .exit id, E, w, q => q (.exit id) E w
  | b, .seq x y, E, w, q => vCode P L b x E w (sq (fun E' w' => vCode P L b y E' w' q) q)
  | b, .scope c, E, w, q => vCode P L b c E w q
  | _, .region _ ops false, E, w, q => bif lazyRegion ops then vOps P ops ops.toList E w (fun E' w' => q .normal (E'.keep L) w') else False
  | _, .region _ ops true, E, w, q =>
    bif lazyRegion ops && P.follows .mixedOrders then
      (bif branchy P ops ops.size (Array.replicate ops.size false) then
        (∃ J : PredN (filt L (memb (wrOps ops.toList))).length,
          PredN.all _ J (fun vs w' => q .normal (joinE L (wrOps ops.toList) E (filt L (memb (wrOps ops.toList))) vs) w') ∧
          ∃ S : World → Prop, S w.drew ∧ vAny P S ops ops.size (Array.replicate ops.size false) E w.drew (fun E' w' => atJ (filt L (memb (wrOps ops.toList))) J E.ds E' w'))
      else ∃ S : World → Prop, S w.drew ∧ vAny P S ops ops.size (Array.replicate ops.size false) E w.drew (fun E' w' => q .normal (E'.keep L) w'))
    else False
  | b, .cond c x y, E, w, q =>
    (match E.ev c with
     | none => False
     | some cv =>
       bif falls x && falls y then
         (bif hasRF x || hasRF y then
           (∃ J : List Nat → PredN (joinS L (wr x ++ wr y) E).length,
             (∀ ds, PredN.all _ (J ds) (fun vs w' => q .normal { joinE L (wr x ++ wr y) E (joinS L (wr x ++ wr y) E) vs with ds := ds } w')) ∧
             If cv (vCode P L b x E w (jqD q _ J)) (vCode P L b y E w (jqD q _ J)))
         else
           (∃ J : PredN (joinS L (wr x ++ wr y) E).length,
             PredN.all _ J (fun vs w' => q .normal (joinE L (wr x ++ wr y) E (joinS L (wr x ++ wr y) E) vs) w') ∧
             If cv (vCode P L b x E w (jq q _ J E.ds)) (vCode P L b y E w (jq q _ J E.ds))))
       else If cv (vCode P L b x E w q) (vCode P L b y E w q))
  | b, .block id c, E, w, q =>
    bif Nat.ble 2 (waysTo id c + bif falls c then 1 else 0) then
      (bif hasRF c then
        (∃ J : List Nat → PredN (joinS L (wr c) E).length,
          (∀ ds, PredN.all _ (J ds) (fun vs w' => q .normal { joinE L (wr c) E (joinS L (wr c) E) vs with ds := ds } w')) ∧ vCode P L b c E w (jbqD id q _ J))
      else
        (∃ J : PredN (joinS L (wr c) E).length,
          PredN.all _ J (fun vs w' => q .normal (joinE L (wr c) E (joinS L (wr c) E) vs) w') ∧ vCode P L b c E w (jbq id q _ J E.ds)))
    else vCode P L b c E w (bq id q)
  | b, .loop c, E, w, q =>
    (match pickV E.m (joinS L (wr c) E) with
     | none => False
     | some vs0 =>
       ∃ (I : Nat → PredN (joinS L (wr c) E).length) (m0 : Nat), PredN.ap _ (I m0) vs0 w ∧
         ∀ m, PredN.all _ (I m) (fun vs w' => vCode P L b c (joinE L (wr c) E (joinS L (wr c) E) vs) w'
           (sq (fun E' w'' => ∃ m', m' < m ∧ atJ (joinS L (wr c) E) (I m') E.ds E' w'') q)))
  | false, .rangeFunc f ps x y, E, w, q =>
    (match E.ev f with
     | none => False
     | some fv => ∀ r : Go.Loop,
       (allA ps.toList.length fun args => ∀ (w' : World) (k : Value → World → Prop), w'.heap[w.heap.size + 1]? = some (LO r .ready none) →
         vCode P L true x (putsL { E with ds := [] } ps.toList args) w' (fun e E1 w1 =>
           (match e with
            | .normal => w1.heap[w.heap.size + 1]? = some (LO r .ready none) ∧
              vCode P L true y E1 (setO w1 (w.heap.size + 1) (LO r .busy none)) (fun e E2 w2 => w2.heap[w.heap.size + 1]? = some (LO r .busy none) ∧
                (match e with
                 | .normal => k (.bool true) (setO w2 (w.heap.size + 1) (LO r .ready none))
                 | .ret => k (.bool false) (setO w2 (w.heap.size + 1) (LO r .done (some .ret)))
                 | .exit id => k (.bool false) (setO w2 (w.heap.size + 1) (LO r .done (some (.exit id))))
                 | _ => False))
            | _ => False)) →
         CallV P (yv (w.heap.size + 1)) args.toArray w' k) →
       CallE P fv #[yv (w.heap.size + 1)] (loopW w r) (fun _ w3 =>
         loopEnd q r (w.heap.size + 1) { E with ds := w.heap.size :: E.ds } w3 (jumpsOf y)
           (∃ st, w3.heap[w.heap.size + 1]? = some (LO r st none) ∧ st ≠ .busy ∧ q .normal { E with ds := w.heap.size :: E.ds } (setO w3 (w.heap.size + 1) (LO r .exhausted none)))))
  | _, _, _, _, _ => False

/-! ### That it suffices -/
structure Agree (L W : List Nat) (E E' : Env) : Prop where
  m : ∀ t, memb L t = true → memb W t = false → getL E'.m t = getL E.m t
  n : E'.n = E.n
theorem Agree.refl (L W : List Nat) (E : Env) : Agree L W E E := ⟨fun _ _ _ => rfl, rfl⟩
theorem Agree.trans {L W W' : List Nat} {E E' E'' : Env} (h : Agree L W E E') (h' : Agree L W' E' E'') : Agree L (W ++ W') E E'' :=
  ⟨fun t hl hw => by
    rw [memb_append, Bool.or_eq_false_iff] at hw
    exact (h'.m t hl hw.2).trans (h.m t hl hw.1), h'.n.trans h.n⟩
theorem Agree.wide {L W W' : List Nat} {E E' : Env} (h : Agree L W E E') (hw : ∀ t, memb W' t = false → memb W t = false) : Agree L W' E E' := ⟨fun t hl h' => h.m t hl (hw t h'), h.n⟩
theorem Agree.put {L W : List Nat} {E E' : Env} (h : Agree L W E E') {d : Option Nat} (v : Value) (hd : ∀ x, d = some x → memb W x = true) : Agree L W E (E'.put d v) := by
  cases d with
  | none => exact h
  | some d =>
    unfold Env.put
    simp only
    cases Nat.blt d E'.n with
    | false => exact h
    | true =>
      refine ⟨fun t hl hw => ?_, h.n⟩
      simp only [cond_true, getL]
      cases hq : Nat.beq d t with
      | true =>
        have : d = t := by simpa using hq
        subst this
        rw [hd d rfl] at hw
        cases hw
      | false => exact h.m t hl hw
theorem memb_filt (p : Nat → Bool) : ∀ (L : List Nat) (t : Nat), memb (filt L p) t = true → memb L t = true ∧ p t = true
  | [], t, h => by simp [filt, memb] at h
  | s :: L, t, h => by
    unfold filt at h
    cases hp : p s with
    | true =>
      rw [hp] at h
      simp only [cond_true, memb, Bool.or_eq_true] at h
      rcases h with h | h
      · have : s = t := by simpa using h
        subst this
        exact ⟨by simp [memb], hp⟩
      · have := memb_filt p L t h
        exact ⟨by simp [memb, this.1], this.2⟩
    | false =>
      rw [hp] at h
      have := memb_filt p L t h
      exact ⟨by simp [memb, this.1], this.2⟩
theorem filt_memb (p : Nat → Bool) : ∀ (L : List Nat) (t : Nat), memb L t = true → p t = true → memb (filt L p) t = true
  | [], t, h, _ => by simp [memb] at h
  | s :: L, t, h, hp => by
    simp only [memb, Bool.or_eq_true] at h
    unfold filt
    rcases h with h | h
    · have : s = t := by simpa using h
      subst this
      rw [hp]; simp [memb]
    · have := filt_memb p L t h hp
      cases p s <;> simp [memb, this]
theorem getL_append (m m' : List (Nat × Value)) (t : Nat) : getL (m ++ m') t = match getL m t with | some v => some v | none => getL m' t := by
  induction m with
  | nil => rfl
  | cons x m ih =>
    obtain ⟨s, v⟩ := x
    simp only [List.cons_append, getL]
    cases Nat.beq s t with
    | true => rfl
    | false => exact ih
theorem getL_zip_memb : ∀ (S : List Nat) (vs : List Value) (t : Nat) (v : Value), getL (zipL S vs) t = some v → memb S t = true
  | [], vs, t, v, h => by simp [zipL, getL] at h
  | s :: S, [], t, v, h => by simp [zipL, getL] at h
  | s :: S, u :: vs, t, v, h => by
    simp only [zipL, getL] at h
    cases hq : Nat.beq s t with
    | true => simp [memb, hq]
    | false => rw [hq] at h; simp [memb, getL_zip_memb S vs t v h]
theorem getL_zip_pick {m : List (Nat × Value)} : ∀ (S : List Nat) (vs : List Value) (t : Nat) (v : Value), pickV m S = some vs → getL (zipL S vs) t = some v → getL m t = some v
  | [], vs, t, v, hp, h => by simp [zipL, getL] at h
  | s :: S, vs, t, v, hp, h => by
    unfold pickV at hp
    split at hp
    · rename_i u hu
      split at hp
      · rename_i us hus
        obtain rfl := Option.some.inj hp
        simp only [zipL, getL] at h
        cases hq : Nat.beq s t with
        | true =>
          rw [hq] at h
          have : s = t := by simpa using hq
          subst this
          simp only [cond_true, Option.some.injEq] at h
          subst h
          exact hu
        | false => rw [hq] at h; exact getL_zip_pick S us t v hus h
      · cases hp
    · cases hp
theorem keepL_memb (m : List (Nat × Value)) : ∀ (ts : List Nat) (t : Nat) (v : Value), getL (keepL m ts) t = some v → memb ts t = true
  | [], t, v, h => by simp [keepL, getL] at h
  | s :: ts, t, v, h => by
    unfold keepL at h
    split at h
    · simp only [getL] at h
      cases hq : Nat.beq s t with
      | true => simp [memb, hq]
      | false => rw [hq] at h; simp [memb, keepL_memb m ts t v h]
    · simp [memb, keepL_memb m ts t v h]
theorem keepL_get (m : List (Nat × Value)) : ∀ (ts : List Nat) (t : Nat), memb ts t = true → getL (keepL m ts) t = getL m t
  | [], t, h => by simp [memb] at h
  | s :: ts, t, h => by
    simp only [memb, Bool.or_eq_true] at h
    unfold keepL
    cases hq : Nat.beq s t with
    | true =>
      have : s = t := by simpa using hq
      subst this
      split
      · rename_i v hv; simp [getL, hv]
      · rename_i hv
        rw [hv]
        cases hh : getL (keepL m ts) s with
        | none => rfl
        | some u => have := getL_keepL m ts s u hh; rw [hv] at this; cases this
    | false =>
      have ht : memb ts t = true := by rcases h with h | h; (rw [hq] at h; cases h); exact h
      split
      · simp only [getL, hq, cond_false]; exact keepL_get m ts t ht
      · exact keepL_get m ts t ht
theorem joinE_sim {L W S : List Nat} {E E' : Env} {a : Act} {vs : List Value} (hs : Sim E' a) (ha : Agree L W E E') (hp : pickV E'.m S = some vs) (hd : E.ds = E'.ds) : Sim (joinE L W E S vs) a := by
  refine hs.sub (fun t v ht => ?_) ha.n.symm hd
  unfold joinE at ht
  simp only [getL_append] at ht
  split at ht
  · rename_i u hu
    obtain rfl := Option.some.inj ht
    exact getL_zip_pick S vs t u hp hu
  · have h1 := keepL_memb _ _ _ _ ht
    obtain ⟨hl, hw⟩ := memb_filt _ _ _ h1
    have hv := getL_keepL _ _ _ _ ht
    rw [ha.m t hl (by simpa using hw)]
    exact hv
theorem joinE_agree {L W S : List Nat} {E : Env} {vs : List Value} (hS : ∀ t, memb S t = true → memb W t = true) : Agree L W E (joinE L W E S vs) := by
  refine ⟨fun t hl hw => ?_, rfl⟩
  unfold joinE
  simp only [getL_append]
  split
  · rename_i u hu
    have := hS t (getL_zip_memb S vs t u hu)
    rw [hw] at this
    cases this
  · exact keepL_get _ _ _ (filt_memb _ _ _ hl (by simp [hw]))
theorem keep_agree {L W : List Nat} {E E' : Env} (h : Agree L W E E') : Agree L W E (E'.keep L) := by
  refine ⟨fun t hl hw => ?_, h.n⟩
  rw [← h.m t hl hw]
  exact keepL_get _ _ _ hl

def post (L W : List Nat) (E : Env) (q : Exit → Env → World → Prop) : Exit → Act → World → Prop
  | .normal, a, w => ∃ E', Sim E' a ∧ Agree L W E E' ∧ q .normal E' w
  | .ret, a, w => ∃ E', Sim E' a ∧ Agree L W E E' ∧ q .ret E' w
  | .exit id, a, w => ∃ E', Sim E' a ∧ Agree L W E E' ∧ q (.exit id) E' w
  | _, _, _ => False

theorem post_mono {L W W' : List Nat} {E : Env} {q q' : Exit → Env → World → Prop} (hw : ∀ t, memb W' t = false → memb W t = false) (hq : ∀ e E' a w, Sim E' a → Agree L W E E' → q e E' w → q' e E' w) :
    ∀ e a w, post L W E q e a w → post L W' E q' e a w := by
  intro e a w h
  cases e <;> first | exact h | (obtain ⟨E', hs, ha, h⟩ := h; exact ⟨E', hs, ha.wide hw, hq _ _ _ _ hs ha h⟩)

theorem atJ_use {L W S : List Nat} {E E' : Env} {a : Act} {w : World} {J : PredN S.length} {k : List Value → World → Prop} (hs : Sim E' a) (ha : Agree L W E E') (h : atJ S J E.ds E' w) (hk : PredN.all _ J k) :
    ∃ vs, Sim (joinE L W E S vs) a ∧ k vs w := by
  unfold atJ at h
  split at h
  · rename_i vs hp
    obtain ⟨hd, hj⟩ := dsEq_use h
    exact ⟨vs, joinE_sim hs ha hp hd, PredN.use _ J k hk vs w hj⟩
  · exact h.elim

theorem wpIn_scope {F : Fence} {n : Nat} {P : Program} {c : Code} {Q : Exit → Act → World → Prop} {a : Act} {w : World} (hQ : ∀ l a w, ¬ Q (.goto l) a w) (h : c.wpIn F n P Q a w) : (Code.scope c).wpIn F n P Q a w := by
  intro b k cs hro hb hr
  have h0 : (lone (b.atR a (.code (.scope c) :: k)) cs w).fenced P F := fenced_calm hb hr rfl
  have s0 : step P (lone (b.atR a (.code (.scope c) :: k)) cs w) = .next (lone (b.atR a (.code c :: .inScope c :: k)) cs w) :=
    step_lone_go (by simp [stepG, stepG.exec, Frame.atR])
  obtain ⟨e, a₁, w₁, hq, harr⟩ := h b (.inScope c :: k) cs hro hb hr
  have hx : ∀ id, exitTo id (.inScope c :: k) = exitTo id k := fun id => by simp [exitTo]
  cases e with
  | normal =>
    have s1 : step P (lone (b.atR a₁ (.inScope c :: k)) cs w₁) = .next (lone (b.atR a₁ k) cs w₁) :=
      step_lone_go (by simp [stepG, stepG.exec, Frame.atR])
    exact ⟨.normal, a₁, w₁, hq, .head h0 s0 (StepsIn.trans harr (.one (fenced_calm hb hr rfl) s1))⟩
  | exit id =>
    exact ⟨.exit id, a₁, w₁, hq, fun k' hk => .head h0 s0 (harr.1 k' (by rw [hx]; exact hk)),
      fun hr' hk => let ⟨k₁, h1, h2⟩ := harr.2 hr' (by rw [hx]; exact hk); ⟨k₁, h1, .head h0 s0 h2⟩⟩
  | goto l => exact (hQ l _ _ hq).elim
  | ret => exact ⟨_, a₁, w₁, hq, .of_steps (.one h0 s0) harr⟩
  | panic ch => exact ⟨_, a₁, w₁, hq, .of_steps (.one h0 s0) harr⟩
  | outgrown => exact ⟨_, a₁, w₁, hq, .of_steps (.one h0 s0) harr⟩

theorem rounds_more {F : Fence} {n : Nat} {P : Program} {c : Code} {Q : Exit → Act → World → Prop} : ∀ (k : Nat) (a : Act) (w : World), Code.roundsIn F n P c Q k a w → Code.roundsIn F n P c Q (k + 1) a w
  | 0, a, w, h => False.elim h
  | k + 1, a, w, h => by
    rw [roundsIn_succ] at h ⊢
    exact wpIn_mono h fun e a w hq => by cases e <;> first | exact hq | exact rounds_more k a w hq
theorem rounds_le {F : Fence} {n : Nat} {P : Program} {c : Code} {Q : Exit → Act → World → Prop} {k k' : Nat} (hk : k ≤ k') {a : Act} {w : World} (h : Code.roundsIn F n P c Q k a w) : Code.roundsIn F n P c Q k' a w := by
  induction hk with
  | refl => exact h
  | step _ ih => exact rounds_more _ _ _ ih
end Go.Vc

set_option linter.unusedVariables false
set_option linter.unusedSimpArgs false
namespace Go.Vc
open Go

theorem lazy_spec {ops : Array Oper} (h : lazyRegion ops = true) : ∀ (i : Nat) o, ops[i]? = some o → noDefer o = true := by
  intro i o ho
  unfold lazyRegion at h
  rw [List.all_eq_true] at h
  exact h o (by have := Array.mem_of_getElem? ho; simpa using this)

theorem region_put {L : List Nat} {ops : Array Oper} {E : Env} (i : Nat) (o : Oper) (ho : ops[i]? = some o) (E' : Env) (v : Value) (h : Agree L (wrOps ops.toList) E E') : Agree L (wrOps ops.toList) E (E'.put o.dst v) :=
  h.put v fun x hx => wrOps_mem o x hx _ (by have := Array.mem_of_getElem? ho; simpa using this)

theorem If_use {c : Value} {A B : Prop} (h : If c A B) : ∃ b, c = .bool b ∧ (b = true → A) ∧ (b = false → B) := by
  unfold If at h
  split at h
  · rename_i b; exact ⟨b, rfl, h⟩
  · exact h.elim

theorem run_getObj {P : Program} {w : World} {l : Nat} {r : Go.Loop} {st : LoopState} {pd : Option Code} (h : w.heap[l]? = some (LO r st pd)) :
    (Instr.getLoop l).run P w = .ok { r with state := st, pending := pd } w := by
  simp [Instr.getLoop, getObj, Sem.run, h, LO]
theorem run_setO {P : Program} {w : World} {l : Nat} {r : Go.Loop} {st : LoopState} {pd : Option Code} {o : Obj} (h : w.heap[l]? = some (LO r st pd)) :
    (setObj l o).run P w = .ok () (setO w l o) := by
  simp [setObj, Sem.run, h, LO, setO]


theorem vCode_sound {P : Program} {L : List Nat} : ∀ (c : Code) (b : Bool) (r : Option Nat) (n : Nat) (E : Env) (a : Act) (w : World) (q : Exit → Env → World → Prop), (b = false → r = none) → Sim E a → vCode P L b c E w q →
    c.wpIn (wF r) n P (post L (wr c) E q) a w := by
  intro c
  induction c with
  | skip => intro b r n E a w q hb hs h; exact wpIn_skip ⟨E, hs, .refl _ _ _, h⟩
  | label l => intro b r n E a w q hb hs h; exact wpIn_label ⟨E, hs, .refl _ _ _, h⟩
  | ret => intro b r n E a w q hb hs h; exact wpIn_ret ⟨E, hs, .refl _ _ _, h⟩
  | exit id => intro b r n E a w q hb hs h; exact wpIn_exit ⟨E, hs, .refl _ _ _, h⟩
  | goto l => intro b r n E a w q hb hs h; cases b <;> exact h.elim
  | refuse s => intro b r n E a w q hb hs h; cases b <;> exact h.elim
  | seq x y ihx ihy =>
    intro b r n E a w q hb hs h
    refine wpIn_seq (wpIn_mono (ihx b r n E a w _ hb hs h) fun e a' w' hp => ?_)
    cases e with
    | normal =>
      obtain ⟨E', hs', ha, hk⟩ := hp
      refine wpIn_mono (ihy b r n E' a' w' q hb hs' hk) fun e a'' w'' hp => ?_
      cases e <;> first | exact hp | (obtain ⟨E'', hs'', ha', hq⟩ := hp; exact ⟨E'', hs'', ha.trans ha', hq⟩)
    | ret => obtain ⟨E', hs', ha, hk⟩ := hp; exact ⟨E', hs', ha.wide (fun t ht => by simp only [wr] at ht; rw [memb_append, Bool.or_eq_false_iff] at ht; exact ht.1), hk⟩
    | exit id => obtain ⟨E', hs', ha, hk⟩ := hp; exact ⟨E', hs', ha.wide (fun t ht => by simp only [wr] at ht; rw [memb_append, Bool.or_eq_false_iff] at ht; exact ht.1), hk⟩
    | goto l => exact hp.elim
    | panic c => exact hp.elim
    | outgrown => exact hp.elim
  | scope c ih =>
    intro b r n E a w q hb hs h
    exact wpIn_scope (fun l a w hq => hq) (ih b r n E a w q hb hs h)
  | region id ops draw =>
    intro b r n E a w q hb hs h
    cases draw with
    | false =>
      have h : (bif lazyRegion ops then vOps P ops ops.toList E w (fun E' w' => q .normal (E'.keep L) w') else False) := by cases b <;> exact h
      cases hl : lazyRegion ops with
      | false => rw [hl] at h; exact h.elim
      | true =>
        rw [hl] at h
        simp only [cond_true] at h
        refine wpIn_region ?_
        have hd := lazy_spec hl
        have := vOps_sound (G := Agree L (wrOps ops.toList) E) (K := post L (wr (.region id ops false)) E q .normal) hd (fun i o ho E' v hg => region_put i o ho E' v hg)
          (fun E' a' w' hs' hg hk => ⟨E'.keep L, hs'.keep L, keep_agree hg, hk⟩) ops.toList 0 (fun j => by simp) E a w hs (.refl _ _ _) h
        rw [← List.range_eq_range', Array.length_toList] at this
        exact rOps_sound hd _ _ _ this
    | true =>
      have h : (bif lazyRegion ops && P.follows .mixedOrders then
          (bif branchy P ops ops.size (Array.replicate ops.size false) then
            (∃ J : PredN (filt L (memb (wrOps ops.toList))).length,
              PredN.all _ J (fun vs w' => q .normal (joinE L (wrOps ops.toList) E (filt L (memb (wrOps ops.toList))) vs) w') ∧
              ∃ S : World → Prop, S w.drew ∧ vAny P S ops ops.size (Array.replicate ops.size false) E w.drew (fun E' w' => atJ (filt L (memb (wrOps ops.toList))) J E.ds E' w'))
          else ∃ S : World → Prop, S w.drew ∧ vAny P S ops ops.size (Array.replicate ops.size false) E w.drew (fun E' w' => q .normal (E'.keep L) w'))
        else False) := by cases b <;> exact h
      cases hl : (lazyRegion ops && P.follows .mixedOrders) with
      | false => rw [hl] at h; exact h.elim
      | true =>
        rw [hl] at h
        simp only [cond_true] at h
        rw [Bool.and_eq_true] at hl
        have hd := lazy_spec hl.1
        cases hbr : branchy P ops ops.size (Array.replicate ops.size false) with
        | true =>
          rw [hbr] at h
          simp only [cond_true] at h
          obtain ⟨J, hJ, S, hS, h⟩ := h
          refine wpIn_region_any hl.2 (rAny_sound (S := S) (nd := needS P ops) hd _ _ _ _ ?_)
          refine vAny_sound (G := Agree L (wrOps ops.toList) E) hd (fun i o ho E' v hg => region_put i o ho E' v hg) (fun E' a' w' hs' hg hk => ?_) _ _ E a w.drew hs (fun _ _ _ _ _ _ => hS) (.refl _ _ _) h
          obtain ⟨vs, hs'', hk⟩ := atJ_use hs' hg hk hJ
          exact ⟨_, hs'', joinE_agree (fun t ht => (memb_filt _ _ _ ht).2), hk⟩
        | false =>
          rw [hbr] at h
          simp only [cond_false] at h
          obtain ⟨S, hS, h⟩ := h
          refine wpIn_region_any hl.2 (rAny_sound (S := S) (nd := needS P ops) hd _ _ _ _ ?_)
          exact vAny_sound (G := Agree L (wrOps ops.toList) E) hd (fun i o ho E' v hg => region_put i o ho E' v hg) (fun E' a' w' hs' hg hk => ⟨E'.keep L, hs'.keep L, keep_agree hg, hk⟩) _ _ E a w.drew hs (fun _ _ _ _ _ _ => hS) (.refl _ _ _) h
  | cond x y z ihy ihz =>
    intro b r n E a w q hb hs h
    have h : (match E.ev x with
     | none => False
     | some cv =>
       bif falls y && falls z then
         (bif hasRF y || hasRF z then
           (∃ J : List Nat → PredN (joinS L (wr y ++ wr z) E).length,
             (∀ ds, PredN.all _ (J ds) (fun vs w' => q .normal { joinE L (wr y ++ wr z) E (joinS L (wr y ++ wr z) E) vs with ds := ds } w')) ∧
             If cv (vCode P L b y E w (jqD q _ J)) (vCode P L b z E w (jqD q _ J)))
         else
           (∃ J : PredN (joinS L (wr y ++ wr z) E).length,
             PredN.all _ J (fun vs w' => q .normal (joinE L (wr y ++ wr z) E (joinS L (wr y ++ wr z) E) vs) w') ∧
             If cv (vCode P L b y E w (jq q _ J E.ds)) (vCode P L b z E w (jq q _ J E.ds))))
       else If cv (vCode P L b y E w q) (vCode P L b z E w q)) := by cases b <;> exact h
    split at h
    · exact h.elim
    · rename_i cv hcv
      have hev := hs.ev hcv
      have wide1 : ∀ t, memb (wr y ++ wr z) t = false → memb (wr y) t = false := fun t ht => by rw [memb_append, Bool.or_eq_false_iff] at ht; exact ht.1
      have wide2 : ∀ t, memb (wr y ++ wr z) t = false → memb (wr z) t = false := fun t ht => by rw [memb_append, Bool.or_eq_false_iff] at ht; exact ht.2
      cases hf : (falls y && falls z) with
      | true =>
        rw [hf] at h
        simp only [cond_true] at h
        rcases Bool.eq_false_or_eq_true (hasRF y || hasRF z) with hrf | hrf
        · rw [hrf] at h
          simp only [cond_true] at h
          obtain ⟨J, hJ, hif⟩ := h
          obtain ⟨bb, rfl, h1, h2⟩ := If_use hif
          have key : ∀ (W : List Nat) (hW : ∀ t, memb (wr y ++ wr z) t = false → memb W t = false) e a' w', post L W E (jqD q _ J) e a' w' → post L (wr (.cond x y z)) E q e a' w' := by
            intro W hW e a' w' hp
            cases e with
            | normal =>
              obtain ⟨E', hs', ha0, hk⟩ := hp
              have ha := ha0.wide hW
              have hk : atJD (joinS L (wr y ++ wr z) E) J E' w' := hk
              unfold atJD at hk
              split at hk
              · rename_i vs hp
                have hs2 : Sim (joinE L (wr y ++ wr z) { E with ds := E'.ds } (joinS L (wr y ++ wr z) E) vs) a' := joinE_sim hs' (E := { E with ds := E'.ds }) ⟨ha.m, ha.n⟩ hp rfl
                have hag : Agree L (wr y ++ wr z) E (joinE L (wr y ++ wr z) E (joinS L (wr y ++ wr z) E) vs) := joinE_agree (fun t ht => by have := (memb_filt _ _ _ ht).2; rw [Bool.and_eq_true] at this; exact this.1)
                exact ⟨{ joinE L (wr y ++ wr z) E (joinS L (wr y ++ wr z) E) vs with ds := E'.ds }, hs2, ⟨hag.m, hag.n⟩, PredN.use _ _ _ (hJ E'.ds) vs w' hk⟩
              · exact hk.elim
            | ret => obtain ⟨E', hs', ha, hk⟩ := hp; exact ⟨E', hs', ha.wide hW, hk⟩
            | exit id => obtain ⟨E', hs', ha, hk⟩ := hp; exact ⟨E', hs', ha.wide hW, hk⟩
            | goto l => exact hp.elim
            | panic c => exact hp.elim
            | outgrown => exact hp.elim
          exact wpIn_cond_split hev (fun hb' => wpIn_mono (ihy b r n E a w _ hb hs (h1 hb')) (key _ wide1)) (fun hb' => wpIn_mono (ihz b r n E a w _ hb hs (h2 hb')) (key _ wide2))
        rw [hrf] at h
        simp only [cond_false] at h
        obtain ⟨J, hJ, hif⟩ := h
        obtain ⟨bb, rfl, h1, h2⟩ := If_use hif
        have key : ∀ (W : List Nat) (hW : ∀ t, memb (wr y ++ wr z) t = false → memb W t = false) e a' w', post L W E (jq q _ J E.ds) e a' w' → post L (wr (.cond x y z)) E q e a' w' := by
          intro W hW e a' w' hp
          cases e with
          | normal =>
            obtain ⟨E', hs', ha, hk⟩ := hp
            obtain ⟨vs, hs'', hk⟩ := atJ_use hs' (ha.wide hW) hk hJ
            exact ⟨_, hs'', joinE_agree (fun t ht => by have := (memb_filt _ _ _ ht).2; rw [Bool.and_eq_true] at this; exact this.1), hk⟩
          | ret => obtain ⟨E', hs', ha, hk⟩ := hp; exact ⟨E', hs', ha.wide hW, hk⟩
          | exit id => obtain ⟨E', hs', ha, hk⟩ := hp; exact ⟨E', hs', ha.wide hW, hk⟩
          | goto l => exact hp.elim
          | panic c => exact hp.elim
          | outgrown => exact hp.elim
        exact wpIn_cond_split hev (fun hb' => wpIn_mono (ihy b r n E a w _ hb hs (h1 hb')) (key _ wide1)) (fun hb' => wpIn_mono (ihz b r n E a w _ hb hs (h2 hb')) (key _ wide2))
      | false =>
        rw [hf] at h
        simp only [cond_false] at h
        obtain ⟨bb, rfl, h1, h2⟩ := If_use h
        exact wpIn_cond_split hev (fun hb' => wpIn_mono (ihy b r n E a w _ hb hs (h1 hb')) (post_mono wide1 fun _ _ _ _ _ _ h => h)) (fun hb' => wpIn_mono (ihz b r n E a w _ hb hs (h2 hb')) (post_mono wide2 fun _ _ _ _ _ _ h => h))
  | block id c ih =>
    intro b r n E a w q hb hs h
    have h : (bif Nat.ble 2 (waysTo id c + bif falls c then 1 else 0) then
      (bif hasRF c then
        (∃ J : List Nat → PredN (joinS L (wr c) E).length,
          (∀ ds, PredN.all _ (J ds) (fun vs w' => q .normal { joinE L (wr c) E (joinS L (wr c) E) vs with ds := ds } w')) ∧ vCode P L b c E w (jbqD id q _ J))
      else
        (∃ J : PredN (joinS L (wr c) E).length,
          PredN.all _ J (fun vs w' => q .normal (joinE L (wr c) E (joinS L (wr c) E) vs) w') ∧ vCode P L b c E w (jbq id q _ J E.ds)))
      else vCode P L b c E w (bq id q)) := by cases b <;> exact h
    refine wpIn_block ?_
    cases hf : (Nat.ble 2 (waysTo id c + bif falls c then 1 else 0)) with
    | true =>
      rw [hf] at h
      simp only [cond_true] at h
      rcases Bool.eq_false_or_eq_true (hasRF c) with hrf | hrf
      · skip
        rw [hrf] at h
        simp only [cond_true] at h
        obtain ⟨J, hJ, h⟩ := h
        refine wpIn_mono (ih b r n E a w _ hb hs h) fun e a' w' hp => ?_
        have hj : ∀ E' a' w', Sim E' a' → Agree L (wr c) E E' → atJD (joinS L (wr c) E) J E' w' → post L (wr c) E q .normal a' w' := by
          intro E' a' w' hs' ha hk
          unfold atJD at hk
          split at hk
          · rename_i vs hp
            have hs2 : Sim (joinE L (wr c) { E with ds := E'.ds } (joinS L (wr c) E) vs) a' := joinE_sim hs' (E := { E with ds := E'.ds }) ⟨ha.m, ha.n⟩ hp rfl
            have hag : Agree L (wr c) E (joinE L (wr c) E (joinS L (wr c) E) vs) := joinE_agree (fun t ht => by have := (memb_filt _ _ _ ht).2; rw [Bool.and_eq_true] at this; exact this.1)
            exact ⟨{ joinE L (wr c) E (joinS L (wr c) E) vs with ds := E'.ds }, hs2, ⟨hag.m, hag.n⟩, PredN.use _ _ _ (hJ E'.ds) vs w' hk⟩
          · exact hk.elim
        cases e with
        | normal => obtain ⟨E', hs', ha, hk⟩ := hp; exact hj E' a' w' hs' ha hk
        | ret => exact hp
        | exit j =>
          obtain ⟨E', hs', ha, hk⟩ := hp
          by_cases hji : j = id
          · subst hji
            simp only [jbqD, Nat.beq_refl, cond_true] at hk
            simp only [Exit.inBlock, if_true]
            exact hj E' a' w' hs' ha hk
          · have : Nat.beq j id = false := by cases hq : Nat.beq j id with | false => rfl | true => exact absurd (by simpa using hq) hji
            simp only [jbqD, this, cond_false] at hk
            simp only [Exit.inBlock, hji, if_false]
            exact ⟨E', hs', ha, hk⟩
        | goto l => exact hp.elim
        | panic c => exact hp.elim
        | outgrown => exact hp.elim
      · skip
        rw [hrf] at h
        simp only [cond_false] at h
        obtain ⟨J, hJ, h⟩ := h
        refine wpIn_mono (ih b r n E a w _ hb hs h) fun e a' w' hp => ?_
        have hj : ∀ E' a' w', Sim E' a' → Agree L (wr c) E E' → atJ (joinS L (wr c) E) J E.ds E' w' → post L (wr c) E q .normal a' w' := by
          intro E' a' w' hs' ha hk
          obtain ⟨vs, hs'', hk⟩ := atJ_use hs' ha hk hJ
          exact ⟨_, hs'', joinE_agree (fun t ht => by have := (memb_filt _ _ _ ht).2; rw [Bool.and_eq_true] at this; exact this.1), hk⟩
        cases e with
        | normal => obtain ⟨E', hs', ha, hk⟩ := hp; exact hj E' a' w' hs' ha hk
        | ret => exact hp
        | exit j =>
          obtain ⟨E', hs', ha, hk⟩ := hp
          by_cases hji : j = id
          · subst hji
            simp only [jbq, Nat.beq_refl, cond_true] at hk
            simp only [Exit.inBlock, if_true]
            exact hj E' a' w' hs' ha hk
          · have : Nat.beq j id = false := by cases hq : Nat.beq j id with | false => rfl | true => exact absurd (by simpa using hq) hji
            simp only [jbq, this, cond_false] at hk
            simp only [Exit.inBlock, hji, if_false]
            exact ⟨E', hs', ha, hk⟩
        | goto l => exact hp.elim
        | panic c => exact hp.elim
        | outgrown => exact hp.elim
    | false =>
      rw [hf] at h
      simp only [cond_false] at h
      refine wpIn_mono (ih b r n E a w _ hb hs h) fun e a' w' hp => ?_
      cases e with
      | normal => exact hp
      | ret => exact hp
      | exit j =>
        obtain ⟨E', hs', ha, hk⟩ := hp
        by_cases hji : j = id
        · subst hji
          simp only [bq, Nat.beq_refl, cond_true] at hk
          simp only [Exit.inBlock, if_true]
          exact ⟨E', hs', ha, hk⟩
        · have : Nat.beq j id = false := by cases hq : Nat.beq j id with | false => rfl | true => exact absurd (by simpa using hq) hji
          simp only [bq, this, cond_false] at hk
          simp only [Exit.inBlock, hji, if_false]
          exact ⟨E', hs', ha, hk⟩
      | goto l => exact hp.elim
      | panic c => exact hp.elim
      | outgrown => exact hp.elim
  | loop c ih =>
    intro b r n E a w q hb hs h
    have h : (match pickV E.m (joinS L (wr c) E) with
     | none => False
     | some vs0 =>
       ∃ (I : Nat → PredN (joinS L (wr c) E).length) (m0 : Nat), PredN.ap _ (I m0) vs0 w ∧
         ∀ m, PredN.all _ (I m) (fun vs w' => vCode P L b c (joinE L (wr c) E (joinS L (wr c) E) vs) w'
           (sq (fun E' w'' => ∃ m', m' < m ∧ atJ (joinS L (wr c) E) (I m') E.ds E' w'') q))) := by cases b <;> exact h
    split at h
    · exact h.elim
    · rename_i vs0 hvs
      obtain ⟨I, m0, h0, hr⟩ := h
      have hSW : ∀ t, memb (joinS L (wr c) E) t = true → memb (wr c) t = true := fun t ht => by have := (memb_filt _ _ _ ht).2; rw [Bool.and_eq_true] at this; exact this.1
      have key : ∀ m vs a w, PredN.ap _ (I m) vs w → Sim (joinE L (wr c) E (joinS L (wr c) E) vs) a → Code.roundsIn (wF r) n P c (post L (wr c) E q) (m + 1) a w := by
        intro m
        induction m using Nat.strongRecOn with
        | _ m ihm =>
          intro vs a w hI hsim
          rw [roundsIn_succ]
          have hv := PredN.use _ _ _ (hr m) vs w hI
          refine wpIn_mono (ih b r n _ a w _ hb hsim hv) fun e a' w' hp => ?_
          have hag : Agree L (wr c) E (joinE L (wr c) E (joinS L (wr c) E) vs) := joinE_agree hSW
          have both : ∀ E', Agree L (wr c) (joinE L (wr c) E (joinS L (wr c) E) vs) E' → Agree L (wr c) E E' := fun E' h' => (hag.trans h').wide (fun t ht => by rw [memb_append, ht]; rfl)
          cases e with
          | normal =>
            obtain ⟨E', hs', ha, m', hlt, hj⟩ := hp
            unfold atJ at hj
            split at hj
            · rename_i vs' hp'
              obtain ⟨hd, hj⟩ := dsEq_use hj
              exact rounds_le (by omega) (ihm m' hlt vs' a' w' hj (joinE_sim hs' (both E' ha) hp' hd))
            · exact hj.elim
          | ret => obtain ⟨E', hs', ha, hk⟩ := hp; exact ⟨E', hs', both E' ha, hk⟩
          | exit id => obtain ⟨E', hs', ha, hk⟩ := hp; exact ⟨E', hs', both E' ha, hk⟩
          | goto l => exact hp.elim
          | panic c => exact hp.elim
          | outgrown => exact hp.elim
      exact wpIn_loop_rounds (m0 + 1) (key m0 vs0 a w h0 (joinE_sim hs (.refl _ _ _) hvs rfl))
  | rangeFunc f ps x y ihx ihy =>
    intro b r n E a w q hb hs h
    cases b with
    | true => exact h.elim
    | false =>
      obtain rfl := hb rfl
      unfold vCode at h
      split at h
      · exact h.elim
      · rename_i fv hf
        have hev := hs.ev hf
        refine wpIn_rangeFunc (F := wF none) fun fn _ => ?_
        obtain ⟨rec0, hrec0⟩ : ∃ r0 : Go.Loop, r0 = { state := .ready, pending := none, fn := fn, tmps := a.tmps, params := ps, assign := x, body := y, defers := w.heap.size } := ⟨_, rfl⟩
        have hy := h rec0 (allA_mk _ _ fun args hal w' k hw' hc => ?yield)
        case yield =>
          have hround : (Instr.yield (w.heap.size + 1) args.toArray).run P w' = .ok (.round (w.heap.size + 1) fn ((ps.toList.zip args).foldl (fun tmps (x : Nat × Value) => tmps.setIfInBounds x.1 x.2) a.tmps) x y) w' := by
            have hsz : args.length = ps.size := by simpa using hal
            have hz : ((ps.zip args.toArray).foldl (fun tmps (x : Nat × Value) => tmps.setIfInBounds x.1 x.2) a.tmps) = ((ps.toList.zip args).foldl (fun tmps (x : Nat × Value) => tmps.setIfInBounds x.1 x.2) a.tmps) := by
              rw [← Array.foldl_toList]; simp
            simp only [Instr.yield, Sem.run_bind, run_getObj hw', Result.andThen_ok, hrec0]
            simp only [List.size_toArray, hsz, ne_eq, not_true_eq_false, if_false]
            simp only [← hz]
            simp
          unfold CallV Upon
          simp only [yv, Deferred.ofValue, Sem.run_bind, Sem.run_pure, Result.andThen_ok, invoke, Array.empty_append]
          rw [hround]
          refine roundIn_of_wpIn (F := Fence.wide) trivial ?_
          have hs0 : Sim (putsL { E with ds := [] } ps.toList args) ⟨(ps.toList.zip args).foldl (fun tmps (x : Nat × Value) => tmps.setIfInBounds x.1 x.2) a.tmps, []⟩ :=
            putsL_sim ps.toList args { E with ds := [] } a.tmps [] ⟨hs.m, hs.n, rfl⟩
          refine wpIn_mono (ihx true (some (w.heap.size + 1)) 0 _ _ w' _ (fun h => by cases h) hs0 hc) fun e a1 w1 hp => ?_
          cases e with
          | normal =>
            obtain ⟨E1, hs1, _, hw1, hbody⟩ := hp
            refine ⟨setO w1 (w.heap.size + 1) (LO rec0 .busy none), ?_, ?_⟩
            · simp only [Instr.beginRound, Sem.run_bind, run_getObj hw1, Result.andThen_ok]
              have := run_setO (P := P) (o := LO rec0 .busy none) hw1
              simp only [LO] at this ⊢
              rw [this]
              rfl
            · refine wpIn_mono (ihy true (some (w.heap.size + 1)) 0 _ _ _ _ (fun h => by cases h) hs1 hbody) fun e a2 w2 hp => ?_
              have hend : ∀ jump, w2.heap[w.heap.size + 1]? = some (LO rec0 .busy none) → (Instr.endRound (w.heap.size + 1) jump).run P w2 = .ok (.bool jump.isNone) (setO w2 (w.heap.size + 1) (LO rec0 (if jump.isNone then .ready else .done) jump)) := by
                intro jump hw2
                simp only [Instr.endRound, Sem.run_bind, run_getObj hw2, Result.andThen_ok]
                have := run_setO (P := P) (o := LO rec0 (if jump.isNone then .ready else .done) jump) hw2
                simp only [LO] at this ⊢
                rw [this]
                rfl
              cases e with
              | normal => obtain ⟨E2, _, _, hw2, hk⟩ := hp; exact ⟨_, _, hend none hw2, _, rfl, hk⟩
              | ret => obtain ⟨E2, _, _, hw2, hk⟩ := hp; exact ⟨_, _, hend (some .ret) hw2, _, rfl, hk⟩
              | exit id => obtain ⟨E2, _, _, hw2, hk⟩ := hp; exact ⟨_, _, hend (some (.exit id)) hw2, _, rfl, hk⟩
              | goto l => exact hp.elim
              | panic c => exact hp.elim
              | outgrown => exact hp.elim
          | ret => obtain ⟨E1, hs1, _, hf⟩ := hp; exact hf.elim
          | exit id => obtain ⟨E1, hs1, _, hf⟩ := hp; exact hf.elim
          | goto l => exact hp.elim
          | panic c => exact hp.elim
          | outgrown => exact hp.elim
        unfold CallE at hy
        split at hy
        · rename_i g gargs w2 hrun
          simp only [Sem.run_bind] at hrun
          cases hofv : (Deferred.ofValue fv #[yv (w.heap.size + 1)]).run P (loopW w rec0) with
          | halt hh ww => rw [hofv] at hrun; cases hrun
          | ok d w1' =>
            rw [hofv] at hrun
            simp only [Result.andThen_ok] at hrun
            refine ⟨w.heap.size + 1, [mkD w.heap.size], loopW w rec0, d, w1', g, gargs, w2, ?_, ?_, fun _ _ => trivial, hrun, fun hx => by simp [wF, Fence.wide] at hx, ?_⟩
            · subst hrec0
              simp only [Instr.enterLoop, wF, Fence.wide, loopW, LO, mkD, Sem.run_bind, run_newObj, Result.andThen_ok, Sem.run_pure, Array.size_push]
            · have : resolve a.eval (rangeCall f (w.heap.size + 1)) 0 = Deferred.ofValue fv #[yv (w.heap.size + 1)] := by
                have e2 : a.eval (.const (.func (.yield (w.heap.size + 1)) #[] #[])) = yv (w.heap.size + 1) := rfl
                simp [resolve, rangeCall, hev, e2]
              rw [this]; exact hofv
            · have hc : CallsIn (wF none) (n - 1) P g gargs w2 _ := callsIn_wide.2 hy
              refine CallsIn.mono hc fun e w3 ⟨v, he, hq⟩ => ?_
              subst he
              have hs' : Sim { E with ds := w.heap.size :: E.ds } { a with defers := [mkD w.heap.size] ++ a.defers } := ⟨hs.m, hs.n, by simp [hs.ds]⟩
              have ha' : Agree L (wr (.rangeFunc f ps x y)) E { E with ds := w.heap.size :: E.ds } := ⟨fun _ _ _ => rfl, rfl⟩
              have hend : ∀ st pd, st ≠ .busy → w3.heap[w.heap.size + 1]? = some (LO rec0 st pd) → (Instr.endLoop (w.heap.size + 1)).run P w3 = .ok pd (setO w3 (w.heap.size + 1) (LO rec0 .exhausted pd)) := by
                intro st pd hst hw3
                simp only [Instr.endLoop, Sem.run_bind, run_getObj hw3, Result.andThen_ok]
                have := run_setO (P := P) (o := LO rec0 .exhausted pd) hw3
                simp only [LO] at this ⊢
                have hb : (st == LoopState.busy) = false := by cases st <;> first | rfl | exact absurd rfl hst
                simp only [hb, Bool.false_eq_true, if_false, Sem.run_bind, Sem.run_pure, Result.andThen_ok]
                rw [this]
                rfl
              have key : ∀ (js : List (Option Nat)) (A : Prop), (A → rangePost (wF none) n P (w.heap.size + 1) (post L (wr (.rangeFunc f ps x y)) E q) { a with defers := [mkD w.heap.size] ++ a.defers } (.returned v) w3) →
                  loopEnd q rec0 (w.heap.size + 1) { E with ds := w.heap.size :: E.ds } w3 js A → rangePost (wF none) n P (w.heap.size + 1) (post L (wr (.rangeFunc f ps x y)) E q) { a with defers := [mkD w.heap.size] ++ a.defers } (.returned v) w3 := by
                intro js
                induction js with
                | nil => intro A hA h; exact hA h
                | cons j js ih =>
                  intro A hA h
                  cases j with
                  | none =>
                    rcases h with h | h
                    · exact hA h
                    · exact ih _ (fun ⟨st, h1, h2, h3⟩ => ⟨_, _, hend st _ h2 h1, wpIn_ret ⟨_, hs', ha', h3⟩⟩) h
                  | some id =>
                    rcases h with h | h
                    · exact hA h
                    · exact ih _ (fun ⟨st, h1, h2, h3⟩ => ⟨_, _, hend st _ h2 h1, wpIn_exit ⟨_, hs', ha', h3⟩⟩) h
              exact key _ _ (fun ⟨st, h1, h2, h3⟩ => ⟨_, _, hend st _ h2 h1, ⟨_, hs', ha', h3⟩⟩) hq
        · exact hy.elim

/-! ### A function's own contract -/
def pack : List Value → Value
  | [v] => v
  | vs => .tuple vs.toArray
def vRes (P : Program) : List ResultVar → Env → World → (List Value → Prop) → Prop
  | [], E, w, k => k []
  | .tmp t :: rs, E, w, k => (match getL E.m t with | some v => vRes P rs E w (fun vs => k (v :: vs)) | none => False)
  | .cell a t :: rs, E, w, k => (match getL E.m a with | some x => Ld P (At w) t x (fun v => vRes P rs E w (fun vs => k (v :: vs))) | none => False)
/-- The marks of ranges over functions are taken up where a function is left. -/
def leave : List Nat → World → (World → Prop) → Prop
  | [], w, k => k w
  | D :: ds, w, k => w.heap[D]? = some (.deferred (some [])) ∧ leave ds (setO w D (.deferred none)) k
def vEnd (P : Program) (rs : List ResultVar) (R : Value → World → Prop) : Exit → Env → World → Prop
  | .normal, E, w => leave E.ds w fun w' => vRes P rs E w' fun vs => R (pack vs) w'
  | .ret, E, w => leave E.ds w fun w' => vRes P rs E w' fun vs => R (pack vs) w'
  | _, _, _ => False
def zipN : Nat → List Value → List (Nat × Value)
  | _, [] => []
  | i, v :: vs => (i, v) :: zipN (i + 1) vs
def vFun (P : Program) (fn : Func) (L : List Nat) (args : List Value) (w : World) (R : Value → World → Prop) : Prop :=
  match fn.body with
  | some c => vCode P L false c { m := zipN 0 args, n := fn.ntmps, ds := [] } w (vEnd P fn.results.toList R)
  | none => False

theorem getL_zipN : ∀ (vs : List Value) (i t : Nat) (v : Value), getL (zipN i vs) t = some v → i ≤ t ∧ vs[t - i]? = some v
  | [], i, t, v, h => by simp [zipN, getL] at h
  | x :: vs, i, t, v, h => by
    simp only [zipN, getL] at h
    cases hq : Nat.beq i t with
    | true =>
      have : i = t := by simpa using hq
      subst this
      rw [hq] at h
      simp only [cond_true, Option.some.injEq] at h
      subst h
      simp
    | false =>
      rw [hq] at h
      obtain ⟨h1, h2⟩ := getL_zipN vs (i + 1) t v h
      refine ⟨by omega, ?_⟩
      rw [show t - i = (t - (i + 1)) + 1 by omega]
      simpa using h2

theorem Ld_ptr {P : Program} {S : World → Prop} {t : TypeId} {x : Value} {k : Value → Prop} (h : Ld P S t x k) : ∃ a, x = .pointer (some a) := by
  have h1 : ∀ {n}, LdA S n x k → ∃ a, x = .pointer (some a) := fun h => by
    unfold LdA at h
    split at h
    · exact ⟨_, rfl⟩
    · exact h.elim
  unfold Ld at h
  split at h
  · split at h
    · exact h1 h
    · exact h.elim
  · split at h
    · exact h1 h
    · exact h.elim
  · unfold LdC at h
    split at h
    · exact ⟨_, rfl⟩
    · exact h.elim
  · exact h.elim
theorem vRes_run {P : Program} {w : World} {a : Act} {E : Env} (hs : Sim E a) {F : ResultVar → Sem Value} (h1 : ∀ t, F (.tmp t) = pure (a.tmps.getD t undef)) (h2 : ∀ c t, F (.cell c t) = (do loadVar t (← asAddr (a.tmps.getD c undef)))) :
    ∀ (rs : List ResultVar) (k : List Value → Prop), vRes P rs E w k → ∃ vs, (rs.mapM F).run P w = .ok vs w ∧ k vs
  | [], k, h => ⟨[], by simp, h⟩
  | .tmp t :: rs, k, h => by
    unfold vRes at h
    split at h
    · rename_i v hv
      obtain ⟨vs, hr, hk⟩ := vRes_run hs h1 h2 rs _ h
      refine ⟨v :: vs, ?_, hk⟩
      rw [List.mapM_cons]
      simp only [Sem.run_bind, Sem.run_pure, Result.andThen_ok, hr, h1, hs.m t v hv]
    · exact h.elim
  | .cell c t :: rs, k, h => by
    unfold vRes at h
    split at h
    · rename_i x hx
      obtain ⟨x, rfl⟩ := Ld_ptr h
      obtain ⟨v, hv, h⟩ := Ld_sound h
      obtain ⟨vs, hr, hk⟩ := vRes_run hs h1 h2 rs _ h
      refine ⟨v :: vs, ?_, hk⟩
      have hv' : (loadVar t x).run P w = .ok v w := by have := hv w rfl; simpa [Instr.loadAt, Instr.sureAddr] using this
      have hA : asAddr (a.tmps.getD c undef) = pure x := by rw [hs.m c _ hx]; rfl
      rw [List.mapM_cons]
      simp only [Sem.run_bind, Result.andThen_ok, h2, hA, Sem.run_pure, hv', hr]
    · exact h.elim

theorem results_gen {P : Program} {l : Array ResultVar} {w : World} {a : Act} {E : Env} {k : Value → Prop} (hs : Sim E a) (h : vRes P l.toList E w fun vs => k (pack vs)) {F : ResultVar → Sem Value}
    (h1 : ∀ t, F (.tmp t) = pure (a.tmps.getD t undef)) (h2 : ∀ c t, F (.cell c t) = (do loadVar t (← asAddr (a.tmps.getD c undef)))) :
    ∃ v, (do let vs ← l.mapM F; pure (if h : vs.size = 1 then vs[0] else .tuple vs) : Sem Value).run P w = .ok v w ∧ k v := by
  obtain ⟨vs, hr, hk⟩ := vRes_run hs h1 h2 _ _ h
  refine ⟨pack vs, ?_, hk⟩
  rw [Array.mapM_eq_mapM_toList]
  simp only [Sem.run_bind, Sem.run_map, hr, Result.andThen_ok, Sem.run_pure]
  congr 1
  match vs with
  | [] => rfl
  | [v] => rfl
  | v :: u :: vs => simp [pack]
theorem results_run {P : Program} {fn : Func} {w : World} {a : Act} {E : Env} {k : Value → Prop} (hs : Sim E a) (h : vRes P fn.results.toList E w fun vs => k (pack vs)) : ∃ v, (results fn a.tmps).run P w = .ok v w ∧ k v := by
  unfold results
  refine results_gen hs h ?_ ?_
  · intro t; rfl
  · intro c t; rfl

theorem leave_run {P : Program} {fn : Func} {n : Nat} {R : Value → World → Prop} {E : Env} {a : Act} (hs : Sim E a) : ∀ (ds : List Nat) (w : World), leave ds w (fun w' => vRes P fn.results.toList E w' fun vs => R (pack vs) w') →
    LeavesInM Fence.wide n P fn a.tmps (fun e w' => ∃ v, e = .returned v ∧ R v w') (ds.map mkD) .returning w
  | [], w, h => by
    obtain ⟨v, hr, hk⟩ := results_run (k := fun v => R v w) hs h
    exact ⟨v, hr, v, rfl, hk⟩
  | D :: ds, w, h => by
    refine ⟨by simp, .inl ⟨D, _, rfl, ?_, leave_run hs ds _ h.2⟩⟩
    have h1 := h.1
    simp [Instr.takeDeferred, getObj, setObj, Sem.run, h1, setO]

/-- A function whose body meets its condition returns as that says. -/
theorem calls_of_vFun {P : Program} {f : FuncId} {fn : Func} {L : List Nat} {args : List Value} {w : World} {R : Value → World → Prop} (hf : P.funcs[f]? = some fn) (hn : Nat.ble args.length fn.ntmps = true)
    (h : vFun P fn L args w R) : Calls P f args.toArray w fun e w' => ∃ v, e = .returned v ∧ R v w' := by
  unfold vFun at h
  split at h
  · rename_i c hc
    have hlen : args.length ≤ fn.ntmps := by simpa using hn
    refine callsIn_wide.1 (callsIn_of_wp_marks (n := 0) hf hc trivial ?_)
    have hs : Sim { m := zipN 0 args, n := fn.ntmps, ds := [] } ⟨args.toArray ++ Array.replicate (fn.ntmps - args.toArray.size) undef, []⟩ := by
      refine ⟨fun t v ht => ?_, by simp; omega, rfl⟩
      obtain ⟨_, h2⟩ := getL_zipN args 0 t v ht
      rw [Nat.sub_zero] at h2
      have hlt : t < args.length := (List.getElem?_eq_some_iff.1 h2).1
      rw [Array.getD_eq_getD_getElem?, Array.getElem?_append_left (by simpa using hlt)]
      simp [h2]
    refine wpIn_mono (vCode_sound c false none 0 _ _ w _ (fun _ => rfl) hs h) fun e a' w' hp => ?_
    cases e with
    | normal =>
      obtain ⟨E', hs', _, hk⟩ := hp
      show LeavesInM _ _ _ _ _ _ a'.defers _ _
      rw [hs'.ds]
      exact leave_run hs' _ _ hk
    | ret =>
      obtain ⟨E', hs', _, hk⟩ := hp
      show LeavesInM _ _ _ _ _ _ a'.defers _ _
      rw [hs'.ds]
      exact leave_run hs' _ _ hk
    | exit id => obtain ⟨E', hs', _, hk⟩ := hp; exact hk.elim
    | goto l => exact hp.elim
    | panic c => exact hp.elim
    | outgrown => exact hp.elim
  · exact h.elim

/-- The function is Go text. -/
def Ent (P : Program) (f : FuncId) : Prop := ∃ fn, P.funcs[f]? = some fn ∧ (fn.name == "runtime.NumGoroutine") = false ∧ fn.body.isNone = false
theorem callF_of {P : Program} {f : FuncId} {args : Array Value} {w : World} {k : Value → World → Prop} (he : Ent P f) (h : Calls P f args w fun e w' => ∃ v, e = .returned v ∧ k v w') : CallF P f args w k := by
  obtain ⟨fn, hf, h1, h2⟩ := he
  unfold CallF Upon callFunc
  simp only [Sem.run_bind, run_program, Result.andThen_ok, hf, h1, Bool.false_eq_true, if_false, h2, Sem.run_pure]
  exact h
theorem calls_of_F {P : Program} {f : FuncId} {args : Array Value} {w : World} {k : Value → World → Prop} (he : Ent P f) (h : CallF P f args w k) : Calls P f args w fun e w' => ∃ v, e = .returned v ∧ k v w' := by
  obtain ⟨fn, hf, h1, h2⟩ := he
  unfold CallF Upon callFunc at h
  simp only [Sem.run_bind, run_program, Result.andThen_ok, hf, h1, Bool.false_eq_true, if_false, h2, Sem.run_pure] at h
  exact h
theorem callV_of {P : Program} {f : FuncId} {first caps args : Array Value} {w : World} {k : Value → World → Prop} (h : CallF P f (first ++ args ++ caps) w k) : CallV P (.func (.func f) first caps) args w k := by
  unfold CallV
  simp only [Deferred.ofValue, Sem.run_bind, Sem.run_pure, Result.andThen_ok, invoke]
  exact h
theorem callE_of {P : Program} {f : FuncId} {first caps args : Array Value} {w : World} {k : Value → World → Prop} (he : Ent P f) (h : CallF P f (first ++ args ++ caps) w k) : CallE P (.func (.func f) first caps) args w k := by
  have h' := calls_of_F he h
  obtain ⟨fn, hf, h1, h2⟩ := he
  unfold CallE
  simp only [Deferred.ofValue, Sem.run_bind, Sem.run_pure, Result.andThen_ok, invoke, callFunc, run_program, hf, h1, Bool.false_eq_true, if_false, h2]
  exact h'
theorem CallF.mono {P : Program} {f : FuncId} {args : Array Value} {w : World} {k k' : Value → World → Prop} (h : CallF P f args w k) (hk : ∀ v w, k v w → k' v w) : CallF P f args w k' := Upon.mono hk h
theorem CallV.mono {P : Program} {fv : Value} {args : Array Value} {w : World} {k k' : Value → World → Prop} (h : CallV P fv args w k) (hk : ∀ v w, k v w → k' v w) : CallV P fv args w k' := Upon.mono hk h
/-- From a function's condition to a call of it. -/
theorem callF_vFun {P : Program} {f : FuncId} {fn : Func} {L : List Nat} {args : List Value} {w : World} {R : Value → World → Prop} (he : Ent P f) (hf : P.funcs[f]? = some fn) (hn : Nat.ble args.length fn.ntmps = true)
    (h : vFun P fn L args w R) : CallF P f args.toArray w R := callF_of he (calls_of_vFun hf hn h)
/-- The same, the condition told by an equation. -/
theorem callF_eq {P : Program} {f : FuncId} {fn : Func} {L : List Nat} {args : List Value} {w : World} {R : Value → World → Prop} {C : Prop} (he : Ent P f) (hf : P.funcs[f]? = some fn) (hn : Nat.ble args.length fn.ntmps = true)
    (e : C = vFun P fn L args w R) (h : C) : CallF P f args.toArray w R := callF_vFun he hf hn (e ▸ h)
end Go.Vc
