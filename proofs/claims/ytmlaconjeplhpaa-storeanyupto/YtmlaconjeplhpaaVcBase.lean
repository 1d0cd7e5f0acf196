/- A condition for a piece of the program's code to run without failing, read off the code by a function: its definition and its soundness. -/
import Derived.RangeFuncIn
import Derived.RangeFuncLeaves
import Derived.OrdersIn
import Derived.WalkKit
import Derived.KernelRfl
set_option linter.unusedVariables false
set_option linter.unusedSimpArgs false
namespace Go.Vc
open Go

/-- Any fence at all, in a round or not. -/
def wF (r : Option Nat) : Fence := { Fence.wide with round := r }

theorem wF_none : wF none = Fence.wide := rfl

/-- What one operation of the machine comes to: it yields a value, or a call returns one. -/
def Upon (P : Program) (s : Sem Next) (w : World) (k : Value → World → Prop) : Prop :=
  match s.run P w with
  | .ok (.value v) w' => k v w'
  | .ok .skip w' => k undef w'
  | .ok (.enter f args) w' => Calls P f args w' fun e w'' => ∃ v, e = .returned v ∧ k v w''
  | .ok (.round l f tmps assign body) w' => RoundIn Fence.wide 0 P l f tmps assign body w' fun e w'' => ∃ v, e = .returned v ∧ k v w''
  | _ => False

theorem Upon.mono {P : Program} {s : Sem Next} {w : World} {k k' : Value → World → Prop} (hk : ∀ v w, k v w → k' v w) (h : Upon P s w k) : Upon P s w k' := by
  unfold Upon at *
  split at h
  · exact hk _ _ h
  · exact hk _ _ h
  · exact Calls.mono h fun e w'' ⟨v, he, hv⟩ => ⟨v, he, hk _ _ hv⟩
  · exact RoundIn.mono h fun e w'' ⟨v, he, hv⟩ => ⟨v, he, hk _ _ hv⟩
  · exact h.elim

/-! ### A region's operations, on the machine's own temporaries -/
def rOp (P : Program) (ops : Array Oper) (i : Nat) (K : Act → World → Prop) (a : Act) (w : World) : Prop :=
  match ops[i]? with
  | none => K a w
  | some o => if Region.wanted o (yielded ops a.tmps) then Upon P (execOp a.eval o) w (fun v w' => K (a.put o.dst v) w') else K (a.put o.dst undef) w

theorem rOp_mono {P : Program} {ops : Array Oper} {i : Nat} {K K' : Act → World → Prop} {a : Act} {w : World} (hk : ∀ a w, K a w → K' a w) (h : rOp P ops i K a w) : rOp P ops i K' a w := by
  unfold rOp at *
  split
  · exact hk _ _ (by simpa [*] using h)
  · rename_i o ho
    simp only [ho] at h
    split
    · rename_i hw; simp only [hw, if_true] at h; exact Upon.mono (fun _ _ h => hk _ _ h) h
    · rename_i hw; simp only [hw] at h; exact hk _ _ h

def noDefer (o : Oper) : Bool := match o.op with | .defer _ | .select .. => false | _ => true

theorem wF_fn (r : Option Nat) (f : FuncId) : (wF r).fn f := trivial
theorem wF_room (r : Option Nat) (n : Nat) : (wF r).room n := fun _ h => by simp [wF, Fence.wide] at h

theorem rOp_sound {P : Program} {ops : Array Oper} {r : Option Nat} {n : Nat} {Q : Exit → Act → World → Prop} {i : Nat} {K : Act → World → Prop} {a : Act} {w : World}
    (hd : ∀ o, ops[i]? = some o → noDefer o = true) (h : rOp P ops i K a w) : wpOpIn (wF r) n P ops Q i K a w := by
  unfold rOp at h
  unfold wpOpIn
  split
  · simpa [*] using h
  · rename_i o ho
    simp only [ho] at h
    have hdo := hd o ho
    split
    · rename_i hw
      simp only [hw, if_true] at h
      refine ⟨fun _ _ => trivial, ?_⟩
      rw [Oper.semAt_eq _ _ _ (by intro c hc; simp [noDefer, hc] at hdo)]
      unfold Upon at h
      split at h
      · rename_i v w' hr; rw [hr]; exact h
      · rename_i w' hr; rw [hr]; exact h
      · rename_i f args w' hr
        rw [hr]
        refine ⟨fun hx => by simp [wF, Fence.wide] at hx, ?_⟩
        have : CallsIn (wF r) (n - 1) P f args w' (fun e w'' => ∃ v, e = .returned v ∧ K (a.put o.dst v) w'') := callsIn_wide.2 h
        exact CallsIn.mono this fun e w'' ⟨v, he, hv⟩ => by subst he; exact hv
      · rename_i l f tmps assign body w' hr
        rw [hr]
        refine ⟨fun hx => by simp [wF, Fence.wide] at hx, ?_⟩
        have h2 : RoundIn (wF r) (n - 1) P l f tmps assign body w' (fun e w'' => ∃ v, e = .returned v ∧ K (a.put o.dst v) w'') := ⟨trivial, fun c cs _ => h.2 c cs (room_wide _)⟩
        exact RoundIn.mono h2 fun e w'' ⟨v, he, hv⟩ => by subst he; exact hv
      · exact h.elim
    · rename_i hw
      simp only [hw] at h
      exact ⟨fun _ _ => trivial, h⟩

/-- Operations one behind the other. -/
def rOps (P : Program) (ops : Array Oper) (K : Act → World → Prop) : List Nat → Act → World → Prop
  | [], a, w => K a w
  | i :: rest, a, w => rOp P ops i (rOps P ops K rest) a w

theorem rOps_sound {P : Program} {ops : Array Oper} {r : Option Nat} {n : Nat} {Q : Exit → Act → World → Prop} (hd : ∀ (i : Nat) o, ops[i]? = some o → noDefer o = true) :
    ∀ (l : List Nat) (a : Act) (w : World), rOps P ops (Q .normal) l a w → wpOpsIn (wF r) n P ops Q l a w
  | [], a, w, h => h
  | i :: rest, a, w, h => by
    rw [wpOpsIn_cons]
    exact wpOpIn_mono (fun a w h => rOps_sound hd rest a w h) (rOp_sound (hd i) h)

/-- Whatever order is picked; behind each operation that nd names the world is as it was, or S holds. -/
def rAny (P : Program) (ops : Array Oper) (K : Act → World → Prop) (S : World → Prop) (nd : Nat → Bool) : Nat → Array Bool → Act → World → Prop
  | 0, listed, a, w => Region.ready .any ops listed = [] ∧ K a w
  | fuel + 1, listed, a, w =>
    (Region.ready .any ops listed = [] → K a w) ∧
    ∀ i ∈ Region.ready .any ops listed, rOp P ops i (fun a' w' => (nd i = true → w' = w ∨ S w') ∧ rAny P ops K S nd fuel (listed.setIfInBounds i true) a' w') a w

theorem rAny_sound {P : Program} {ops : Array Oper} {r : Option Nat} {n : Nat} {Q : Exit → Act → World → Prop} {S : World → Prop} {nd : Nat → Bool} (hd : ∀ (i : Nat) o, ops[i]? = some o → noDefer o = true) :
    ∀ (fuel : Nat) (listed : Array Bool) (a : Act) (w : World), rAny P ops (Q .normal) S nd fuel listed a w → wpAnyIn (wF r) n P .any ops Q fuel listed a w
  | 0, _, _, _, h => h
  | fuel + 1, listed, a, w, h => ⟨h.1, fun i hi => wpOpIn_mono (fun a' w' h' => rAny_sound hd fuel _ a' w' h'.2) (rOp_sound (hd i) (h.2 i hi))⟩

/-- In every world that meets S, the operation leaves v and does nothing else. -/
def Yld (P : Program) (ops : Array Oper) (S : World → Prop) (o : Oper) (v : Value) (a : Act) : Prop :=
  (Region.wanted o (yielded ops a.tmps) = true ∧ ∀ w, S w → (execOp a.eval o).run P w = .ok (.value v) w) ∨
  (Region.wanted o (yielded ops a.tmps) = false ∧ v = undef)

theorem Yld.rOp {P : Program} {ops : Array Oper} {S : World → Prop} {i : Nat} {o : Oper} {v : Value} {a : Act} (hi : ops[i]? = some o) (hy : Yld P ops S o v a)
    {K : Act → World → Prop} {w : World} (hS : S w) (h : K (a.put o.dst v) w) : Vc.rOp P ops i K a w := by
  unfold Vc.rOp
  simp only [hi]
  rcases hy with ⟨hw, hv⟩ | ⟨hw, rfl⟩
  · simp only [hw, if_true, Upon, hv w hS]; exact h
  · simp only [hw, Bool.false_eq_true, if_false]; exact h

theorem Yld.of_same {P : Program} {ops : Array Oper} {S : World → Prop} {o : Oper} {v : Value} {a a' : Act} (hy : Yld P ops S o v a) (he : execOp a'.eval o = execOp a.eval o)
    (hw : Region.wanted o (yielded ops a'.tmps) = Region.wanted o (yielded ops a.tmps)) : Yld P ops S o v a' := by
  unfold Yld at *
  rw [he, hw]
  exact hy

theorem rOp_put {P : Program} {ops : Array Oper} {S : World → Prop} {j : Nat} {oi oj : Oper} {v : Value} (hj : ops[j]? = some oj) (hap : oi.apart ops oj = true)
    (hsi : noDefer oi = true) (hsj : noDefer oj = true) {K : Act → World → Prop} {a : Act} {w : World}
    (hy : Yld P ops S oi v a) (h : rOp P ops j K (a.put oi.dst v) w) :
    rOp P ops j (fun a' w' => Yld P ops S oi v a' ∧ K (a'.put oi.dst v) w') a w := by
  obtain ⟨h1, h2, h3⟩ := Oper.apart_spec hap
  have hsi' : ∀ cs b, oi.op ≠ .select cs b := fun cs b e => by simp [noDefer, e] at hsi
  have hsj' : ∀ cs b, oj.op ≠ .select cs b := fun cs b e => by simp [noDefer, e] at hsj
  have keep : ∀ (a : Act), Yld P ops S oi v a → ∀ u, Yld P ops S oi v (a.put oj.dst u) := fun a hy u =>
    hy.of_same (execOp_put oi hsi' a oj.dst u h3) (wanted_put oi a oj.dst u h3)
  unfold rOp at *
  simp only [hj] at *
  rw [wanted_put oj a oi.dst v h1] at h
  split
  · rename_i hw
    simp only [hw, if_true] at h
    rw [execOp_put oj hsj' a oi.dst v h1] at h
    refine Upon.mono (fun u w' hu => ⟨keep a hy u, ?_⟩) h
    rw [← Act.put_comm a v u h2]; exact hu
  · rename_i hw
    simp only [hw] at h
    exact ⟨keep a hy _, by rw [← Act.put_comm a v undef h2]; exact h⟩

theorem rAny_first {P : Program} {ops : Array Oper} {K : Act → World → Prop} {S Si : World → Prop} {nd : Nat → Bool} {i : Nat} {oi : Oper} {v : Value} (hi : ops[i]? = some oi)
    (hsel : ∀ (j : Nat) (o : Oper), ops[j]? = some o → noDefer o = true) (hS : ∀ w, S w → Si w)
    (hnd : (∀ (j : Nat) oj, ops[j]? = some oj → j ≠ i → (∀ e ∈ oj.after, Region.binds .any e = true → e.on ≠ i) → nd j = true) ∨ ∀ w, Si w) :
    ∀ (fuel : Nat) (listed : Array Bool) (a : Act) (w : World),
      (∀ j oj, ops[j]? = some oj → j ≠ i → listed.getD j true = false → (∀ e ∈ oj.after, Region.binds .any e = true → e.on ≠ i) → oi.apart ops oj = true) →
      i ∈ Region.ready .any ops listed → Yld P ops Si oi v a → Si w →
      rAny P ops K S nd fuel (listed.setIfInBounds i true) (a.put oi.dst v) w → rAny P ops K S nd (fuel + 1) listed a w := by
  intro fuel
  induction fuel with
  | zero =>
    intro listed a w _ hr hy hw H
    refine ⟨fun h => (by rw [h] at hr; cases hr), fun j hj => ?_⟩
    by_cases hji : j = i
    · subst hji; exact hy.rOp hi hw ⟨fun _ => .inl rfl, H⟩
    · have := ready_mono hj hji
      rw [H.1] at this
      cases this
  | succ fuel ih =>
    intro listed a w hfree hr hy hw H
    refine ⟨fun h => (by rw [h] at hr; cases hr), fun j hj => ?_⟩
    by_cases hji : j = i
    · subst hji; exact hy.rOp hi hw ⟨fun _ => .inl rfl, H⟩
    · have h1 := H.2 j (ready_mono hj hji)
      obtain ⟨hjun, oj, hoj, hall⟩ := mem_ready.1 hj
      have hnot : ∀ e ∈ oj.after, Region.binds .any e = true → e.on ≠ i := fun e he hb heq => by
        have h1 := hall e he hb
        have h0 := (mem_ready.1 hr).1
        rw [heq] at h1
        rcases Nat.lt_or_ge i listed.size with h' | h'
        · simp [h'] at h0 h1; rw [h0] at h1; cases h1
        · simp [Array.getElem?_eq_none h'] at h1
      have h2 := rOp_put hoj (hfree j oj hoj hji hjun hnot) (hsel i oi hi) (hsel j oj hoj) hy h1
      have hfree' : ∀ k ok, ops[k]? = some ok → k ≠ i → (listed.setIfInBounds j true).getD k true = false →
          (∀ e ∈ ok.after, Region.binds .any e = true → e.on ≠ i) → oi.apart ops ok = true := fun k ok hk hki hun hno => by
        refine hfree k ok hk hki ?_ hno
        by_cases hjk : j = k
        · subst hjk; exact hjun
        · rw [getD_set_ne true hjk] at hun; exact hun
      refine rOp_mono (fun a' w' h3 => ⟨h3.2.1, ?_⟩) h2
      have hw' : Si w' := by
        rcases hnd with hnd | hnd
        · rcases h3.2.1 (hnd j oj hoj hji hnot) with e | e
          · rw [e]; exact hw
          · exact hS w' e
        · exact hnd w'
      refine ih (listed.setIfInBounds j true) a' w' hfree' (ready_mono hr (Ne.symm hji)) h3.1 hw' ?_
      rw [Array.setIfInBounds_comm _ _ hji]
      exact h3.2.2

end Go.Vc
