/- That the condition read off a body of code suffices: the code runs, and a call of the function returns as the condition says. -/
import Derived.Test.YtmlaconjeplhpaaVcBody
set_option linter.unusedVariables false
set_option linter.unusedSimpArgs false
namespace Go.Vc
open Go

theorem lazy_spec {ops : Array Oper} (h : lazyRegion ops = true) : ∀ (i : Nat) o, ops[i]? = some o → noDefer o = true := by
  intro i o ho
  unfold lazyRegion at h
  rw [List.all_eq_true] at h
  exact h o (by have := Array.mem_of_getElem? ho; simpa using this)

theorem region_put {L : List Nat} {ops : Array Oper} {E : Env} (i : Nat) (o : Oper) (ho : ops[i]? = some o) (E' : Env) (v : Value) (h : Agree L (wrOps ops.toList) E E') : Agree L (wrOps ops.toList) E (E'.put o.dst v) :=
  h.put v fun x hx => wrOps_mem o x hx _ (by have := Array.mem_of_getElem? ho; simpa using this)

theorem If_use {c : Value} {A B : Prop} (h : If c A B) : ∃ b, c = .bool b ∧ (b = true → A) ∧ (b = false → B) := by
  unfold If at h
  split at h
  · rename_i b; exact ⟨b, rfl, h⟩
  · exact h.elim

theorem run_getObj {P : Program} {w : World} {l : Nat} {r : Go.Loop} {st : LoopState} {pd : Option Code} (h : w.heap[l]? = some (LO r st pd)) :
    (Instr.getLoop l).run P w = .ok { r with state := st, pending := pd } w := by
  simp [Instr.getLoop, getObj, Sem.run, h, LO]
theorem run_setO {P : Program} {w : World} {l : Nat} {r : Go.Loop} {st : LoopState} {pd : Option Code} {o : Obj} (h : w.heap[l]? = some (LO r st pd)) :
    (setObj l o).run P w = .ok () (setO w l o) := by
  simp [setObj, Sem.run, h, LO, setO]


theorem vCode_sound {P : Program} {L : List Nat} : ∀ (c : Code) (b : Bool) (r : Option Nat) (n : Nat) (E : Env) (a : Act) (w : World) (q : Exit → Env → World → Prop), (b = false → r = none) → Sim E a → vCode P L b c E w q →
    c.wpIn (wF r) n P (post L (wr c) E q) a w := by
  intro c
  induction c with
  | skip => intro b r n E a w q hb hs h; exact wpIn_skip ⟨E, hs, .refl _ _ _, h⟩
  | label l => intro b r n E a w q hb hs h; exact wpIn_label ⟨E, hs, .refl _ _ _, h⟩
  | ret => intro b r n E a w q hb hs h; exact wpIn_ret ⟨E, hs, .refl _ _ _, h⟩
  | exit id => intro b r n E a w q hb hs h; exact wpIn_exit ⟨E, hs, .refl _ _ _, h⟩
  | goto l => intro b r n E a w q hb hs h; cases b <;> exact h.elim
  | refuse s => intro b r n E a w q hb hs h; cases b <;> exact h.elim
  | seq x y ihx ihy =>
    intro b r n E a w q hb hs h
    refine wpIn_seq (wpIn_mono (ihx b r n E a w _ hb hs h) fun e a' w' hp => ?_)
    cases e with
    | normal =>
      obtain ⟨E', hs', ha, hk⟩ := hp
      refine wpIn_mono (ihy b r n E' a' w' q hb hs' hk) fun e a'' w'' hp => ?_
      cases e <;> first | exact hp | (obtain ⟨E'', hs'', ha', hq⟩ := hp; exact ⟨E'', hs'', ha.trans ha', hq⟩)
    | ret => obtain ⟨E', hs', ha, hk⟩ := hp; exact ⟨E', hs', ha.wide (fun t ht => by simp only [wr] at ht; rw [memb_append, Bool.or_eq_false_iff] at ht; exact ht.1), hk⟩
    | exit id => obtain ⟨E', hs', ha, hk⟩ := hp; exact ⟨E', hs', ha.wide (fun t ht => by simp only [wr] at ht; rw [memb_append, Bool.or_eq_false_iff] at ht; exact ht.1), hk⟩
    | goto l => exact hp.elim
    | panic c => exact hp.elim
    | outgrown => exact hp.elim
  | scope c ih =>
    intro b r n E a w q hb hs h
    exact wpIn_scope (fun l a w hq => hq) (ih b r n E a w q hb hs h)
  | region id ops draw =>
    intro b r n E a w q hb hs h
    cases draw with
    | false =>
      have h : (bif lazyRegion ops then vOps P ops ops.toList E w (fun E' w' => q .normal (E'.keep L) w') else False) := by cases b <;> exact h
      cases hl : lazyRegion ops with
      | false => rw [hl] at h; exact h.elim
      | true =>
        rw [hl] at h
        simp only [cond_true] at h
        refine wpIn_region ?_
        have hd := lazy_spec hl
        have := vOps_sound (G := Agree L (wrOps ops.toList) E) (K := post L (wr (.region id ops false)) E q .normal) hd (fun i o ho E' v hg => region_put i o ho E' v hg)
          (fun E' a' w' hs' hg hk => ⟨E'.keep L, hs'.keep L, keep_agree hg, hk⟩) ops.toList 0 (fun j => by simp) E a w hs (.refl _ _ _) h
        rw [← List.range_eq_range', Array.length_toList] at this
        exact rOps_sound hd _ _ _ this
    | true =>
      have h : (bif lazyRegion ops && P.follows .mixedOrders then
          (bif branchy P ops ops.size (Array.replicate ops.size false) then
            (∃ J : PredN (filt L (memb (wrOps ops.toList))).length,
              PredN.all _ J (fun vs w' => q .normal (joinE L (wrOps ops.toList) E (filt L (memb (wrOps ops.toList))) vs) w') ∧
              ∃ S : World → Prop, S w.drew ∧ vAny P S ops ops.size (Array.replicate ops.size false) E w.drew (fun E' w' => atJ (filt L (memb (wrOps ops.toList))) J E.ds E' w'))
          else ∃ S : World → Prop, S w.drew ∧ vAny P S ops ops.size (Array.replicate ops.size false) E w.drew (fun E' w' => q .normal (E'.keep L) w'))
        else False) := by cases b <;> exact h
      cases hl : (lazyRegion ops && P.follows .mixedOrders) with
      | false => rw [hl] at h; exact h.elim
      | true =>
        rw [hl] at h
        simp only [cond_true] at h
        rw [Bool.and_eq_true] at hl
        have hd := lazy_spec hl.1
        cases hbr : branchy P ops ops.size (Array.replicate ops.size false) with
        | true =>
          rw [hbr] at h
          simp only [cond_true] at h
          obtain ⟨J, hJ, S, hS, h⟩ := h
          refine wpIn_region_any hl.2 (rAny_sound (S := S) (nd := needS P ops) hd _ _ _ _ ?_)
          refine vAny_sound (G := Agree L (wrOps ops.toList) E) hd (fun i o ho E' v hg => region_put i o ho E' v hg) (fun E' a' w' hs' hg hk => ?_) _ _ E a w.drew hs (fun _ _ _ _ _ _ => hS) (.refl _ _ _) h
          obtain ⟨vs, hs'', hk⟩ := atJ_use hs' hg hk hJ
          exact ⟨_, hs'', joinE_agree (fun t ht => (memb_filt _ _ _ ht).2), hk⟩
        | false =>
          rw [hbr] at h
          simp only [cond_false] at h
          obtain ⟨S, hS, h⟩ := h
          refine wpIn_region_any hl.2 (rAny_sound (S := S) (nd := needS P ops) hd _ _ _ _ ?_)
          exact vAny_sound (G := Agree L (wrOps ops.toList) E) hd (fun i o ho E' v hg => region_put i o ho E' v hg) (fun E' a' w' hs' hg hk => ⟨E'.keep L, hs'.keep L, keep_agree hg, hk⟩) _ _ E a w.drew hs (fun _ _ _ _ _ _ => hS) (.refl _ _ _) h
  | cond x y z ihy ihz =>
    intro b r n E a w q hb hs h
    have h : (match E.ev x with
     | none => False
     | some cv =>
       bif falls y && falls z then
         (∃ J : PredN (joinS L (wr y ++ wr z) E).length,
           PredN.all _ J (fun vs w' => q .normal (joinE L (wr y ++ wr z) E (joinS L (wr y ++ wr z) E) vs) w') ∧
           If cv (vCode P L b y E w (jq q _ J E.ds)) (vCode P L b z E w (jq q _ J E.ds)))
       else If cv (vCode P L b y E w q) (vCode P L b z E w q)) := by cases b <;> exact h
    split at h
    · exact h.elim
    · rename_i cv hcv
      have hev := hs.ev hcv
      have wide1 : ∀ t, memb (wr y ++ wr z) t = false → memb (wr y) t = false := fun t ht => by rw [memb_append, Bool.or_eq_false_iff] at ht; exact ht.1
      have wide2 : ∀ t, memb (wr y ++ wr z) t = false → memb (wr z) t = false := fun t ht => by rw [memb_append, Bool.or_eq_false_iff] at ht; exact ht.2
      cases hf : (falls y && falls z) with
      | true =>
        rw [hf] at h
        simp only [cond_true] at h
        obtain ⟨J, hJ, hif⟩ := h
        obtain ⟨bb, rfl, h1, h2⟩ := If_use hif
        have key : ∀ (W : List Nat) (hW : ∀ t, memb (wr y ++ wr z) t = false → memb W t = false) e a' w', post L W E (jq q _ J E.ds) e a' w' → post L (wr (.cond x y z)) E q e a' w' := by
          intro W hW e a' w' hp
          cases e with
          | normal =>
            obtain ⟨E', hs', ha, hk⟩ := hp
            obtain ⟨vs, hs'', hk⟩ := atJ_use hs' (ha.wide hW) hk hJ
            exact ⟨_, hs'', joinE_agree (fun t ht => by have := (memb_filt _ _ _ ht).2; rw [Bool.and_eq_true] at this; exact this.1), hk⟩
          | ret => obtain ⟨E', hs', ha, hk⟩ := hp; exact ⟨E', hs', ha.wide hW, hk⟩
          | exit id => obtain ⟨E', hs', ha, hk⟩ := hp; exact ⟨E', hs', ha.wide hW, hk⟩
          | goto l => exact hp.elim
          | panic c => exact hp.elim
          | outgrown => exact hp.elim
        exact wpIn_cond_split hev (fun hb' => wpIn_mono (ihy b r n E a w _ hb hs (h1 hb')) (key _ wide1)) (fun hb' => wpIn_mono (ihz b r n E a w _ hb hs (h2 hb')) (key _ wide2))
      | false =>
        rw [hf] at h
        simp only [cond_false] at h
        obtain ⟨bb, rfl, h1, h2⟩ := If_use h
        exact wpIn_cond_split hev (fun hb' => wpIn_mono (ihy b r n E a w _ hb hs (h1 hb')) (post_mono wide1 fun _ _ _ _ _ _ h => h)) (fun hb' => wpIn_mono (ihz b r n E a w _ hb hs (h2 hb')) (post_mono wide2 fun _ _ _ _ _ _ h => h))
  | block id c ih =>
    intro b r n E a w q hb hs h
    have h : (bif Nat.ble 2 (waysTo id c + bif falls c then 1 else 0) then
      (bif hasRF c then
        (∃ J : List Nat → PredN (joinS L (wr c) E).length,
          (∀ ds, PredN.all _ (J ds) (fun vs w' => q .normal { joinE L (wr c) E (joinS L (wr c) E) vs with ds := ds } w')) ∧ vCode P L b c E w (jbqD id q _ J))
      else
        (∃ J : PredN (joinS L (wr c) E).length,
          PredN.all _ J (fun vs w' => q .normal (joinE L (wr c) E (joinS L (wr c) E) vs) w') ∧ vCode P L b c E w (jbq id q _ J E.ds)))
      else vCode P L b c E w (bq id q)) := by cases b <;> exact h
    refine wpIn_block ?_
    cases hf : (Nat.ble 2 (waysTo id c + bif falls c then 1 else 0)) with
    | true =>
      rw [hf] at h
      simp only [cond_true] at h
      rcases Bool.eq_false_or_eq_true (hasRF c) with hrf | hrf
      · skip
        rw [hrf] at h
        simp only [cond_true] at h
        obtain ⟨J, hJ, h⟩ := h
        refine wpIn_mono (ih b r n E a w _ hb hs h) fun e a' w' hp => ?_
        have hj : ∀ E' a' w', Sim E' a' → Agree L (wr c) E E' → atJD (joinS L (wr c) E) J E' w' → post L (wr c) E q .normal a' w' := by
          intro E' a' w' hs' ha hk
          unfold atJD at hk
          split at hk
          · rename_i vs hp
            have hs2 : Sim (joinE L (wr c) { E with ds := E'.ds } (joinS L (wr c) E) vs) a' := joinE_sim hs' (E := { E with ds := E'.ds }) ⟨ha.m, ha.n⟩ hp rfl
            have hag : Agree L (wr c) E (joinE L (wr c) E (joinS L (wr c) E) vs) := joinE_agree (fun t ht => by have := (memb_filt _ _ _ ht).2; rw [Bool.and_eq_true] at this; exact this.1)
            exact ⟨{ joinE L (wr c) E (joinS L (wr c) E) vs with ds := E'.ds }, hs2, ⟨hag.m, hag.n⟩, PredN.use _ _ _ (hJ E'.ds) vs w' hk⟩
          · exact hk.elim
        cases e with
        | normal => obtain ⟨E', hs', ha, hk⟩ := hp; exact hj E' a' w' hs' ha hk
        | ret => exact hp
        | exit j =>
          obtain ⟨E', hs', ha, hk⟩ := hp
          by_cases hji : j = id
          · subst hji
            simp only [jbqD, Nat.beq_refl, cond_true] at hk
            simp only [Exit.inBlock, if_true]
            exact hj E' a' w' hs' ha hk
          · have : Nat.beq j id = false := by cases hq : Nat.beq j id with | false => rfl | true => exact absurd (by simpa using hq) hji
            simp only [jbqD, this, cond_false] at hk
            simp only [Exit.inBlock, hji, if_false]
            exact ⟨E', hs', ha, hk⟩
        | goto l => exact hp.elim
        | panic c => exact hp.elim
        | outgrown => exact hp.elim
      · skip
        rw [hrf] at h
        simp only [cond_false] at h
        obtain ⟨J, hJ, h⟩ := h
        refine wpIn_mono (ih b r n E a w _ hb hs h) fun e a' w' hp => ?_
        have hj : ∀ E' a' w', Sim E' a' → Agree L (wr c) E E' → atJ (joinS L (wr c) E) J E.ds E' w' → post L (wr c) E q .normal a' w' := by
          intro E' a' w' hs' ha hk
          obtain ⟨vs, hs'', hk⟩ := atJ_use hs' ha hk hJ
          exact ⟨_, hs'', joinE_agree (fun t ht => by have := (memb_filt _ _ _ ht).2; rw [Bool.and_eq_true] at this; exact this.1), hk⟩
        cases e with
        | normal => obtain ⟨E', hs', ha, hk⟩ := hp; exact hj E' a' w' hs' ha hk
        | ret => exact hp
        | exit j =>
          obtain ⟨E', hs', ha, hk⟩ := hp
          by_cases hji : j = id
          · subst hji
            simp only [jbq, Nat.beq_refl, cond_true] at hk
            simp only [Exit.inBlock, if_true]
            exact hj E' a' w' hs' ha hk
          · have : Nat.beq j id = false := by cases hq : Nat.beq j id with | false => rfl | true => exact absurd (by simpa using hq) hji
            simp only [jbq, this, cond_false] at hk
            simp only [Exit.inBlock, hji, if_false]
            exact ⟨E', hs', ha, hk⟩
        | goto l => exact hp.elim
        | panic c => exact hp.elim
        | outgrown => exact hp.elim
    | false =>
      rw [hf] at h
      simp only [cond_false] at h
      refine wpIn_mono (ih b r n E a w _ hb hs h) fun e a' w' hp => ?_
      cases e with
      | normal => exact hp
      | ret => exact hp
      | exit j =>
        obtain ⟨E', hs', ha, hk⟩ := hp
        by_cases hji : j = id
        · subst hji
          simp only [bq, Nat.beq_refl, cond_true] at hk
          simp only [Exit.inBlock, if_true]
          exact ⟨E', hs', ha, hk⟩
        · have : Nat.beq j id = false := by cases hq : Nat.beq j id with | false => rfl | true => exact absurd (by simpa using hq) hji
          simp only [bq, this, cond_false] at hk
          simp only [Exit.inBlock, hji, if_false]
          exact ⟨E', hs', ha, hk⟩
      | goto l => exact hp.elim
      | panic c => exact hp.elim
      | outgrown => exact hp.elim
  | loop c ih =>
    intro b r n E a w q hb hs h
    have h : (match pickV E.m (joinS L (wr c) E) with
     | none => False
     | some vs0 =>
       ∃ (I : Nat → PredN (joinS L (wr c) E).length) (m0 : Nat), PredN.ap _ (I m0) vs0 w ∧
         ∀ m, PredN.all _ (I m) (fun vs w' => vCode P L b c (joinE L (wr c) E (joinS L (wr c) E) vs) w'
           (sq (fun E' w'' => ∃ m', m' < m ∧ atJ (joinS L (wr c) E) (I m') E.ds E' w'') q))) := by cases b <;> exact h
    split at h
    · exact h.elim
    · rename_i vs0 hvs
      obtain ⟨I, m0, h0, hr⟩ := h
      have hSW : ∀ t, memb (joinS L (wr c) E) t = true → memb (wr c) t = true := fun t ht => by have := (memb_filt _ _ _ ht).2; rw [Bool.and_eq_true] at this; exact this.1
      have key : ∀ m vs a w, PredN.ap _ (I m) vs w → Sim (joinE L (wr c) E (joinS L (wr c) E) vs) a → Code.roundsIn (wF r) n P c (post L (wr c) E q) (m + 1) a w := by
        intro m
        induction m using Nat.strongRecOn with
        | _ m ihm =>
          intro vs a w hI hsim
          rw [roundsIn_succ]
          have hv := PredN.use _ _ _ (hr m) vs w hI
          refine wpIn_mono (ih b r n _ a w _ hb hsim hv) fun e a' w' hp => ?_
          have hag : Agree L (wr c) E (joinE L (wr c) E (joinS L (wr c) E) vs) := joinE_agree hSW
          have both : ∀ E', Agree L (wr c) (joinE L (wr c) E (joinS L (wr c) E) vs) E' → Agree L (wr c) E E' := fun E' h' => (hag.trans h').wide (fun t ht => by rw [memb_append, ht]; rfl)
          cases e with
          | normal =>
            obtain ⟨E', hs', ha, m', hlt, hj⟩ := hp
            unfold atJ at hj
            split at hj
            · rename_i vs' hp'
              obtain ⟨hd, hj⟩ := dsEq_use hj
              exact rounds_le (by omega) (ihm m' hlt vs' a' w' hj (joinE_sim hs' (both E' ha) hp' hd))
            · exact hj.elim
          | ret => obtain ⟨E', hs', ha, hk⟩ := hp; exact ⟨E', hs', both E' ha, hk⟩
          | exit id => obtain ⟨E', hs', ha, hk⟩ := hp; exact ⟨E', hs', both E' ha, hk⟩
          | goto l => exact hp.elim
          | panic c => exact hp.elim
          | outgrown => exact hp.elim
      exact wpIn_loop_rounds (m0 + 1) (key m0 vs0 a w h0 (joinE_sim hs (.refl _ _ _) hvs rfl))
  | rangeFunc f ps x y ihx ihy =>
    intro b r n E a w q hb hs h
    cases b with
    | true => exact h.elim
    | false =>
      obtain rfl := hb rfl
      unfold vCode at h
      split at h
      · exact h.elim
      · rename_i fv hf
        have hev := hs.ev hf
        refine wpIn_rangeFunc (F := wF none) fun fn _ => ?_
        obtain ⟨rec0, hrec0⟩ : ∃ r0 : Go.Loop, r0 = { state := .ready, pending := none, fn := fn, tmps := a.tmps, params := ps, assign := x, body := y, defers := w.heap.size } := ⟨_, rfl⟩
        have hy := h rec0 (allA_mk _ _ fun args hal w' k hw' hc => ?yield)
        case yield =>
          have hround : (Instr.yield (w.heap.size + 1) args.toArray).run P w' = .ok (.round (w.heap.size + 1) fn ((ps.toList.zip args).foldl (fun tmps (x : Nat × Value) => tmps.setIfInBounds x.1 x.2) a.tmps) x y) w' := by
            have hsz : args.length = ps.size := by simpa using hal
            have hz : ((ps.zip args.toArray).foldl (fun tmps (x : Nat × Value) => tmps.setIfInBounds x.1 x.2) a.tmps) = ((ps.toList.zip args).foldl (fun tmps (x : Nat × Value) => tmps.setIfInBounds x.1 x.2) a.tmps) := by
              rw [← Array.foldl_toList]; simp
            simp only [Instr.yield, Sem.run_bind, run_getObj hw', Result.andThen_ok, hrec0]
            simp only [List.size_toArray, hsz, ne_eq, not_true_eq_false, if_false]
            simp only [← hz]
            simp
          unfold CallV Upon
          simp only [yv, Deferred.ofValue, Sem.run_bind, Sem.run_pure, Result.andThen_ok, invoke, Array.empty_append]
          rw [hround]
          refine roundIn_of_wpIn (F := Fence.wide) trivial ?_
          have hs0 : Sim (putsL { E with ds := [] } ps.toList args) ⟨(ps.toList.zip args).foldl (fun tmps (x : Nat × Value) => tmps.setIfInBounds x.1 x.2) a.tmps, []⟩ :=
            putsL_sim ps.toList args { E with ds := [] } a.tmps [] ⟨hs.m, hs.n, rfl⟩
          refine wpIn_mono (ihx true (some (w.heap.size + 1)) 0 _ _ w' _ (fun h => by cases h) hs0 hc) fun e a1 w1 hp => ?_
          cases e with
          | normal =>
            obtain ⟨E1, hs1, _, hw1, hbody⟩ := hp
            refine ⟨setO w1 (w.heap.size + 1) (LO rec0 .busy none), ?_, ?_⟩
            · simp only [Instr.beginRound, Sem.run_bind, run_getObj hw1, Result.andThen_ok]
              have := run_setO (P := P) (o := LO rec0 .busy none) hw1
              simp only [LO] at this ⊢
              rw [this]
              rfl
            · refine wpIn_mono (ihy true (some (w.heap.size + 1)) 0 _ _ _ _ (fun h => by cases h) hs1 hbody) fun e a2 w2 hp => ?_
              have hend : ∀ jump, w2.heap[w.heap.size + 1]? = some (LO rec0 .busy none) → (Instr.endRound (w.heap.size + 1) jump).run P w2 = .ok (.bool jump.isNone) (setO w2 (w.heap.size + 1) (LO rec0 (if jump.isNone then .ready else .done) jump)) := by
                intro jump hw2
                simp only [Instr.endRound, Sem.run_bind, run_getObj hw2, Result.andThen_ok]
                have := run_setO (P := P) (o := LO rec0 (if jump.isNone then .ready else .done) jump) hw2
                simp only [LO] at this ⊢
                rw [this]
                rfl
              cases e with
              | normal => obtain ⟨E2, _, _, hw2, hk⟩ := hp; exact ⟨_, _, hend none hw2, _, rfl, hk⟩
              | ret => obtain ⟨E2, _, _, hw2, hk⟩ := hp; exact ⟨_, _, hend (some .ret) hw2, _, rfl, hk⟩
              | exit id => obtain ⟨E2, _, _, hw2, hk⟩ := hp; exact ⟨_, _, hend (some (.exit id)) hw2, _, rfl, hk⟩
              | goto l => exact hp.elim
              | panic c => exact hp.elim
              | outgrown => exact hp.elim
          | ret => obtain ⟨E1, hs1, _, hf⟩ := hp; exact hf.elim
          | exit id => obtain ⟨E1, hs1, _, hf⟩ := hp; exact hf.elim
          | goto l => exact hp.elim
          | panic c => exact hp.elim
          | outgrown => exact hp.elim
        unfold CallE at hy
        split at hy
        · rename_i g gargs w2 hrun
          simp only [Sem.run_bind] at hrun
          cases hofv : (Deferred.ofValue fv #[yv (w.heap.size + 1)]).run P (loopW w rec0) with
          | halt hh ww => rw [hofv] at hrun; cases hrun
          | ok d w1' =>
            rw [hofv] at hrun
            simp only [Result.andThen_ok] at hrun
            refine ⟨w.heap.size + 1, [mkD w.heap.size], loopW w rec0, d, w1', g, gargs, w2, ?_, ?_, fun _ _ => trivial, hrun, fun hx => by simp [wF, Fence.wide] at hx, ?_⟩
            · subst hrec0
              simp only [Instr.enterLoop, wF, Fence.wide, loopW, LO, mkD, Sem.run_bind, run_newObj, Result.andThen_ok, Sem.run_pure, Array.size_push]
            · have : resolve a.eval (rangeCall f (w.heap.size + 1)) 0 = Deferred.ofValue fv #[yv (w.heap.size + 1)] := by
                have e2 : a.eval (.const (.func (.yield (w.heap.size + 1)) #[] #[])) = yv (w.heap.size + 1) := rfl
                simp [resolve, rangeCall, hev, e2]
              rw [this]; exact hofv
            · have hc : CallsIn (wF none) (n - 1) P g gargs w2 _ := callsIn_wide.2 hy
              refine CallsIn.mono hc fun e w3 ⟨v, he, hq⟩ => ?_
              subst he
              have hs' : Sim { E with ds := w.heap.size :: E.ds } { a with defers := [mkD w.heap.size] ++ a.defers } := ⟨hs.m, hs.n, by simp [hs.ds]⟩
              have ha' : Agree L (wr (.rangeFunc f ps x y)) E { E with ds := w.heap.size :: E.ds } := ⟨fun _ _ _ => rfl, rfl⟩
              have hend : ∀ st pd, st ≠ .busy → w3.heap[w.heap.size + 1]? = some (LO rec0 st pd) → (Instr.endLoop (w.heap.size + 1)).run P w3 = .ok pd (setO w3 (w.heap.size + 1) (LO rec0 .exhausted pd)) := by
                intro st pd hst hw3
                simp only [Instr.endLoop, Sem.run_bind, run_getObj hw3, Result.andThen_ok]
                have := run_setO (P := P) (o := LO rec0 .exhausted pd) hw3
                simp only [LO] at this ⊢
                have hb : (st == LoopState.busy) = false := by cases st <;> first | rfl | exact absurd rfl hst
                simp only [hb, Bool.false_eq_true, if_false, Sem.run_bind, Sem.run_pure, Result.andThen_ok]
                rw [this]
                rfl
              have key : ∀ (js : List (Option Nat)) (A : Prop), (A → rangePost (wF none) n P (w.heap.size + 1) (post L (wr (.rangeFunc f ps x y)) E q) { a with defers := [mkD w.heap.size] ++ a.defers } (.returned v) w3) →
                  loopEnd q rec0 (w.heap.size + 1) { E with ds := w.heap.size :: E.ds } w3 js A → rangePost (wF none) n P (w.heap.size + 1) (post L (wr (.rangeFunc f ps x y)) E q) { a with defers := [mkD w.heap.size] ++ a.defers } (.returned v) w3 := by
                intro js
                induction js with
                | nil => intro A hA h; exact hA h
                | cons j js ih =>
                  intro A hA h
                  cases j with
                  | none =>
                    rcases h with h | h
                    · exact hA h
                    · exact ih _ (fun ⟨st, h1, h2, h3⟩ => ⟨_, _, hend st _ h2 h1, wpIn_ret ⟨_, hs', ha', h3⟩⟩) h
                  | some id =>
                    rcases h with h | h
                    · exact hA h
                    · exact ih _ (fun ⟨st, h1, h2, h3⟩ => ⟨_, _, hend st _ h2 h1, wpIn_exit ⟨_, hs', ha', h3⟩⟩) h
              exact key _ _ (fun ⟨st, h1, h2, h3⟩ => ⟨_, _, hend st _ h2 h1, ⟨_, hs', ha', h3⟩⟩) hq
        · exact hy.elim

/-! ### A function's own contract -/
def pack : List Value → Value
  | [v] => v
  | vs => .tuple vs.toArray
def vRes (P : Program) : List ResultVar → Env → World → (List Value → Prop) → Prop
  | [], E, w, k => k []
  | .tmp t :: rs, E, w, k => (match getL E.m t with | some v => vRes P rs E w (fun vs => k (v :: vs)) | none => False)
  | .cell a t :: rs, E, w, k => (match getL E.m a with | some x => Ld P (At w) t x (fun v => vRes P rs E w (fun vs => k (v :: vs))) | none => False)
/-- The marks of ranges over functions are taken up where a function is left. -/
def leave : List Nat → World → (World → Prop) → Prop
  | [], w, k => k w
  | D :: ds, w, k => w.heap[D]? = some (.deferred (some [])) ∧ leave ds (setO w D (.deferred none)) k
def vEnd (P : Program) (rs : List ResultVar) (R : Value → World → Prop) : Exit → Env → World → Prop
  | .normal, E, w => leave E.ds w fun w' => vRes P rs E w' fun vs => R (pack vs) w'
  | .ret, E, w => leave E.ds w fun w' => vRes P rs E w' fun vs => R (pack vs) w'
  | _, _, _ => False
def zipN : Nat → List Value → List (Nat × Value)
  | _, [] => []
  | i, v :: vs => (i, v) :: zipN (i + 1) vs
def vFun (P : Program) (fn : Func) (L : List Nat) (args : List Value) (w : World) (R : Value → World → Prop) : Prop :=
  match fn.body with
  | some c => vCode P L false c { m := zipN 0 args, n := fn.ntmps, ds := [] } w (vEnd P fn.results.toList R)
  | none => False

theorem getL_zipN : ∀ (vs : List Value) (i t : Nat) (v : Value), getL (zipN i vs) t = some v → i ≤ t ∧ vs[t - i]? = some v
  | [], i, t, v, h => by simp [zipN, getL] at h
  | x :: vs, i, t, v, h => by
    simp only [zipN, getL] at h
    cases hq : Nat.beq i t with
    | true =>
      have : i = t := by simpa using hq
      subst this
      rw [hq] at h
      simp only [cond_true, Option.some.injEq] at h
      subst h
      simp
    | false =>
      rw [hq] at h
      obtain ⟨h1, h2⟩ := getL_zipN vs (i + 1) t v h
      refine ⟨by omega, ?_⟩
      rw [show t - i = (t - (i + 1)) + 1 by omega]
      simpa using h2

theorem Ld_ptr {P : Program} {S : World → Prop} {t : TypeId} {x : Value} {k : Value → Prop} (h : Ld P S t x k) : ∃ a, x = .pointer (some a) := by
  have h1 : ∀ {n}, LdA S n x k → ∃ a, x = .pointer (some a) := fun h => by
    unfold LdA at h
    split at h
    · exact ⟨_, rfl⟩
    · exact h.elim
  unfold Ld at h
  split at h
  · split at h
    · exact h1 h
    · exact h.elim
  · split at h
    · exact h1 h
    · exact h.elim
  · unfold LdC at h
    split at h
    · exact ⟨_, rfl⟩
    · exact h.elim
  · exact h.elim
theorem vRes_run {P : Program} {w : World} {a : Act} {E : Env} (hs : Sim E a) {F : ResultVar → Sem Value} (h1 : ∀ t, F (.tmp t) = pure (a.tmps.getD t undef)) (h2 : ∀ c t, F (.cell c t) = (do loadVar t (← asAddr (a.tmps.getD c undef)))) :
    ∀ (rs : List ResultVar) (k : List Value → Prop), vRes P rs E w k → ∃ vs, (rs.mapM F).run P w = .ok vs w ∧ k vs
  | [], k, h => ⟨[], by simp, h⟩
  | .tmp t :: rs, k, h => by
    unfold vRes at h
    split at h
    · rename_i v hv
      obtain ⟨vs, hr, hk⟩ := vRes_run hs h1 h2 rs _ h
      refine ⟨v :: vs, ?_, hk⟩
      rw [List.mapM_cons]
      simp only [Sem.run_bind, Sem.run_pure, Result.andThen_ok, hr, h1, hs.m t v hv]
    · exact h.elim
  | .cell c t :: rs, k, h => by
    unfold vRes at h
    split at h
    · rename_i x hx
      obtain ⟨x, rfl⟩ := Ld_ptr h
      obtain ⟨v, hv, h⟩ := Ld_sound h
      obtain ⟨vs, hr, hk⟩ := vRes_run hs h1 h2 rs _ h
      refine ⟨v :: vs, ?_, hk⟩
      have hv' : (loadVar t x).run P w = .ok v w := by have := hv w rfl; simpa [Instr.loadAt, Instr.sureAddr] using this
      have hA : asAddr (a.tmps.getD c undef) = pure x := by rw [hs.m c _ hx]; rfl
      rw [List.mapM_cons]
      simp only [Sem.run_bind, Result.andThen_ok, h2, hA, Sem.run_pure, hv', hr]
    · exact h.elim

theorem results_gen {P : Program} {l : Array ResultVar} {w : World} {a : Act} {E : Env} {k : Value → Prop} (hs : Sim E a) (h : vRes P l.toList E w fun vs => k (pack vs)) {F : ResultVar → Sem Value}
    (h1 : ∀ t, F (.tmp t) = pure (a.tmps.getD t undef)) (h2 : ∀ c t, F (.cell c t) = (do loadVar t (← asAddr (a.tmps.getD c undef)))) :
    ∃ v, (do let vs ← l.mapM F; pure (if h : vs.size = 1 then vs[0] else .tuple vs) : Sem Value).run P w = .ok v w ∧ k v := by
  obtain ⟨vs, hr, hk⟩ := vRes_run hs h1 h2 _ _ h
  refine ⟨pack vs, ?_, hk⟩
  rw [Array.mapM_eq_mapM_toList]
  simp only [Sem.run_bind, Sem.run_map, hr, Result.andThen_ok, Sem.run_pure]
  congr 1
  match vs with
  | [] => rfl
  | [v] => rfl
  | v :: u :: vs => simp [pack]
theorem results_run {P : Program} {fn : Func} {w : World} {a : Act} {E : Env} {k : Value → Prop} (hs : Sim E a) (h : vRes P fn.results.toList E w fun vs => k (pack vs)) : ∃ v, (results fn a.tmps).run P w = .ok v w ∧ k v := by
  unfold results
  refine results_gen hs h ?_ ?_
  · intro t; rfl
  · intro c t; rfl

theorem leave_run {P : Program} {fn : Func} {n : Nat} {R : Value → World → Prop} {E : Env} {a : Act} (hs : Sim E a) : ∀ (ds : List Nat) (w : World), leave ds w (fun w' => vRes P fn.results.toList E w' fun vs => R (pack vs) w') →
    LeavesInM Fence.wide n P fn a.tmps (fun e w' => ∃ v, e = .returned v ∧ R v w') (ds.map mkD) .returning w
  | [], w, h => by
    obtain ⟨v, hr, hk⟩ := results_run (k := fun v => R v w) hs h
    exact ⟨v, hr, v, rfl, hk⟩
  | D :: ds, w, h => by
    refine ⟨by simp, .inl ⟨D, _, rfl, ?_, leave_run hs ds _ h.2⟩⟩
    have h1 := h.1
    simp [Instr.takeDeferred, getObj, setObj, Sem.run, h1, setO]

/-- A function whose body meets its condition returns as that says. -/
theorem calls_of_vFun {P : Program} {f : FuncId} {fn : Func} {L : List Nat} {args : List Value} {w : World} {R : Value → World → Prop} (hf : P.funcs[f]? = some fn) (hn : Nat.ble args.length fn.ntmps = true)
    (h : vFun P fn L args w R) : Calls P f args.toArray w fun e w' => ∃ v, e = .returned v ∧ R v w' := by
  unfold vFun at h
  split at h
  · rename_i c hc
    have hlen : args.length ≤ fn.ntmps := by simpa using hn
    refine callsIn_wide.1 (callsIn_of_wp_marks (n := 0) hf hc trivial ?_)
    have hs : Sim { m := zipN 0 args, n := fn.ntmps, ds := [] } ⟨args.toArray ++ Array.replicate (fn.ntmps - args.toArray.size) undef, []⟩ := by
      refine ⟨fun t v ht => ?_, by simp; omega, rfl⟩
      obtain ⟨_, h2⟩ := getL_zipN args 0 t v ht
      rw [Nat.sub_zero] at h2
      have hlt : t < args.length := (List.getElem?_eq_some_iff.1 h2).1
      rw [Array.getD_eq_getD_getElem?, Array.getElem?_append_left (by simpa using hlt)]
      simp [h2]
    refine wpIn_mono (vCode_sound c false none 0 _ _ w _ (fun _ => rfl) hs h) fun e a' w' hp => ?_
    cases e with
    | normal =>
      obtain ⟨E', hs', _, hk⟩ := hp
      show LeavesInM _ _ _ _ _ _ a'.defers _ _
      rw [hs'.ds]
      exact leave_run hs' _ _ hk
    | ret =>
      obtain ⟨E', hs', _, hk⟩ := hp
      show LeavesInM _ _ _ _ _ _ a'.defers _ _
      rw [hs'.ds]
      exact leave_run hs' _ _ hk
    | exit id => obtain ⟨E', hs', _, hk⟩ := hp; exact hk.elim
    | goto l => exact hp.elim
    | panic c => exact hp.elim
    | outgrown => exact hp.elim
  · exact h.elim

/-- The function is Go text. -/
def Ent (P : Program) (f : FuncId) : Prop := ∃ fn, P.funcs[f]? = some fn ∧ (fn.name == "runtime.NumGoroutine") = false ∧ fn.body.isNone = false
theorem callF_of {P : Program} {f : FuncId} {args : Array Value} {w : World} {k : Value → World → Prop} (he : Ent P f) (h : Calls P f args w fun e w' => ∃ v, e = .returned v ∧ k v w') : CallF P f args w k := by
  obtain ⟨fn, hf, h1, h2⟩ := he
  unfold CallF Upon callFunc
  simp only [Sem.run_bind, run_program, Result.andThen_ok, hf, h1, Bool.false_eq_true, if_false, h2, Sem.run_pure]
  exact h
theorem calls_of_F {P : Program} {f : FuncId} {args : Array Value} {w : World} {k : Value → World → Prop} (he : Ent P f) (h : CallF P f args w k) : Calls P f args w fun e w' => ∃ v, e = .returned v ∧ k v w' := by
  obtain ⟨fn, hf, h1, h2⟩ := he
  unfold CallF Upon callFunc at h
  simp only [Sem.run_bind, run_program, Result.andThen_ok, hf, h1, Bool.false_eq_true, if_false, h2, Sem.run_pure] at h
  exact h
theorem callV_of {P : Program} {f : FuncId} {first caps args : Array Value} {w : World} {k : Value → World → Prop} (h : CallF P f (first ++ args ++ caps) w k) : CallV P (.func (.func f) first caps) args w k := by
  unfold CallV
  simp only [Deferred.ofValue, Sem.run_bind, Sem.run_pure, Result.andThen_ok, invoke]
  exact h
theorem callE_of {P : Program} {f : FuncId} {first caps args : Array Value} {w : World} {k : Value → World → Prop} (he : Ent P f) (h : CallF P f (first ++ args ++ caps) w k) : CallE P (.func (.func f) first caps) args w k := by
  have h' := calls_of_F he h
  obtain ⟨fn, hf, h1, h2⟩ := he
  unfold CallE
  simp only [Deferred.ofValue, Sem.run_bind, Sem.run_pure, Result.andThen_ok, invoke, callFunc, run_program, hf, h1, Bool.false_eq_true, if_false, h2]
  exact h'
theorem CallF.mono {P : Program} {f : FuncId} {args : Array Value} {w : World} {k k' : Value → World → Prop} (h : CallF P f args w k) (hk : ∀ v w, k v w → k' v w) : CallF P f args w k' := Upon.mono hk h
theorem CallV.mono {P : Program} {fv : Value} {args : Array Value} {w : World} {k k' : Value → World → Prop} (h : CallV P fv args w k) (hk : ∀ v w, k v w → k' v w) : CallV P fv args w k' := Upon.mono hk h
/-- From a function's condition to a call of it. -/
theorem callF_vFun {P : Program} {f : FuncId} {fn : Func} {L : List Nat} {args : List Value} {w : World} {R : Value → World → Prop} (he : Ent P f) (hf : P.funcs[f]? = some fn) (hn : Nat.ble args.length fn.ntmps = true)
    (h : vFun P fn L args w R) : CallF P f args.toArray w R := callF_of he (calls_of_vFun hf hn h)
/-- The same, the condition told by an equation. -/
theorem callF_eq {P : Program} {f : FuncId} {fn : Func} {L : List Nat} {args : List Value} {w : World} {R : Value → World → Prop} {C : Prop} (he : Ent P f) (hf : P.funcs[f]? = some fn) (hn : Nat.ble args.length fn.ntmps = true)
    (e : C = vFun P fn L args w R) (h : C) : CallF P f args.toArray w R := callF_vFun he hf hn (e ▸ h)
end Go.Vc
