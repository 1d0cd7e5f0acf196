/- Contracts of package command's EncodeAnswer, EncodeState. -/
import Derived.Test.YtachignmofpngaaCmdW3
set_option linter.unusedVariables false
set_option linter.unusedSimpArgs false
set_option maxRecDepth 20000
namespace Go.Proofs.Ytachignmofpngaa
open Go Go.Vc

theorem done_told {w0 w : World} {p : Nat} {bs : List Nat} {er : Int} {v : Value} (hW : Wr w p bs er v) (hF : Fr [] w0 w) (hn : ∀ i ∈ fp v, w0.heap.size ≤ i) :
    CallF Try.prog 36 #[.pointer (some ⟨p, 0, none⟩)] w fun t61 w62 => Ext t61 0 fun t62 => Ext t61 1 fun t63 => Told w0 (.tuple #[t62, t63]) w62 bs er := by
  refine (w_done hW).use ?_
  rintro r w12 ⟨hr, hF12⟩
  by_cases h0 : er = 0
  · rw [if_pos h0] at hr
    subst hr
    refine ⟨v, by rw [h0]; rfl, hF.t hF12, hn, ?_⟩
    rw [if_pos h0, if_pos h0]; exact hW.own.fr hF12 (fun i _ => by simp)
  · rw [if_neg h0] at hr
    subst hr
    refine ⟨.slice none 0 0, rfl, hF.t hF12, fun i hi => by simp [fp_nil] at hi, ?_⟩
    rw [if_neg h0, if_neg h0]; exact Own.nil _ _ _
/-- A new writer. -/
theorem new_writer {w : World} {k : Value → World → Prop} (h : ∀ p w', w.heap.size = p → Wr w' p [] 0 (.slice none 0 0) → Fr [] w w' → k (.pointer (some ⟨p, 0, none⟩)) w') :
    Bld Try.prog 72 [] fun t => Do Try.prog (Instr.box 72 t) w k :=
  bld_writer (box' (l := [.slice none 0 0, .int .i64 0]) rfl fun p w' hp hB hF hs => h p w' hp ⟨hB, Own.nil _ _ _, by simp [fp_nil]⟩ hF)
/-- The first three numbers of an answer or of a state. -/
theorem bound_of {p f : Nat} {α : Type} {S : Shape α} {C : Codec α} {long : α → Bool} (h : WrF true S C long p fun x w k => CallF Try.prog f #[.pointer (some ⟨p, 0, none⟩), x] w k) : WrF true S C long p fun x w k => CallV Try.prog (.func (.func f) #[.pointer (some ⟨p, 0, none⟩)] #[]) #[x] w k :=
  fun w bs er v cs a F hw hr hF hb => callV_of (h w bs er v cs a F hw hr hF hb)
def longT (t : DTask) : Bool := decide (1024 < t.2.1.length)
def longX (x : DLease) : Bool := decide (1024 < x.2.1.length)
def longA (a : DAnswer) : Bool := decide (1024 < a.2.1.length) || longL longX a.2.2
def longS (s : DState) : Bool := longL (fun _ => false) s.2.1 || (longL (fun _ => false) s.2.2.1 || (longL longT s.2.2.2.1 || (longL longX s.2.2.2.2.1 || longL (fun _ => false) s.2.2.2.2.2)))
theorem enc_len_list {α : Type} (C : Codec α) (l : List α) (h : ∀ a, 1 ≤ (C.enc a).length) : l.length ≤ (C.list.enc l).length := by
  show l.length ≤ (layN l.length ++ l.flatMap C.enc).length
  have : l.length ≤ (l.flatMap C.enc).length := by
    induction l with
    | nil => simp
    | cons x l ih => have := h x; rw [List.flatMap_cons, List.length_append, List.length_cons]; omega
  rw [List.length_append]; omega
theorem pos_lease (x : DLease) : 1 ≤ (cLease.enc x).length := by
  have : 1 ≤ (listN x.2.1).length := by have := (layN_length x.2.1.length).1; simp only [listN, List.length_append]; omega
  show 1 ≤ (wholes x.1 ++ (listN x.2.1 ++ (wholes x.2.2.1 ++ _))).length
  simp only [List.length_append]; omega
theorem pos_task (x : DTask) : 1 ≤ (cTask.enc x).length := by
  have : 1 ≤ (listN x.2.1).length := by have := (layN_length x.2.1.length).1; simp only [listN, List.length_append]; omega
  show 1 ≤ (wholes x.1 ++ (listN x.2.1 ++ _)).length
  simp only [List.length_append]; omega
theorem list_one {α : Type} {S : Shape α} (hs : 0 < S.size) {w : World} {cs : List Value} {l : List α} {F : List Nat} (h : (S.list hs).rd w cs l F) : ∃ A c, cs = [.slice A l.length c] := by
  obtain ⟨v, cells, G, rfl, hcap, ⟨A, c, rfl, _⟩, _⟩ := h
  exact ⟨A, c, rfl⟩
theorem ints_src {w : World} {p n : Nat} {v : Value} {A : Option Addr} {c : Nat} {l : List Int} {F : List Nat} (h : sInts.rd w [.slice A n c] l F) (hF : ∀ i ∈ F, i ≠ p ∧ i ∉ fp v) : n = l.length ∧ (∀ y ∈ l, I64 y) ∧ Src w p v (.slice A n c) l.length (ints l) := by
  have hlt := sInts.lt h
  obtain ⟨v', cells, G, e, hcap, hsl, hrows, rfl⟩ := h
  obtain rfl := (List.cons.inj e).1
  obtain ⟨rfl, rfl, hI⟩ := rows_ints.1 hrows
  obtain ⟨A', c', e', _⟩ := id hsl
  cases e'
  refine ⟨rfl, hI, hsl, fun h0 i hi => ?_⟩
  have : l ≠ [] := by intro e; rw [e] at h0; simp at h0
  have hm : i ∈ (if l = [] then [] else fp (.slice A l.length c)) ++ [] := by simp [this, hi]
  exact ⟨hlt i hm, hF i hm⟩

theorem encodeAnswer_c {w : World} {cs : List Value} {a : DAnswer} {F : List Nat} (hr : sAnswer.rd w cs a F) (hb : 10 * (cAnswer.enc a).length ≤ 99999990000) :
    CallF Try.prog 24 #[.agg cs.toArray] w fun r w' => Told w r w' (cAnswer.enc a) (if longA a then 3 else 0) := by
  have hlt := sAnswer.lt hr
  obtain ⟨c1, c2, F1, F2, rfl, rfl, h1, c3, c4, F3, F4, rfl, rfl, h3, h4⟩ := hr
  obtain ⟨l1, l2, l3⟩ := a
  obtain ⟨hl1, rfl, rfl, hI1⟩ := of_rep h1
  obtain ⟨A, c, rfl⟩ := list_one _ h3
  obtain ⟨A', c', rfl⟩ := list_one _ h4
  simp only at hl1 hI1 h3 h4
  match l1, hl1 with
  | [a0, a1, a2], _ =>
    have henc : cAnswer.enc ([a0, a1, a2], l2, l3) = wholes [a0, a1, a2] ++ (listN l2 ++ cLease.list.enc l3) := rfl
    rw [henc] at hb ⊢
    simp only [List.length_append] at hb
    have n1 := wholes_le [a0, a1, a2] 3 (by simp)
    have n2 := listN_length l2
    have n4 := len_wholes l2
    have n6 : l2.length ≤ (listN l2).length := by simp only [listN, List.length_append]; omega
    have n7 := enc_len_list cLease l3 pos_lease
    refine C_command_EncodeAnswer_link ?_
    unfold C_command_EncodeAnswer
    refine box' (l := ints [a0, a1, a2] ++ ([.slice A l2.length c] ++ [.slice A' l3.length c'])) rfl ?_
    intro b w1 hb1 hB hF1 hs1
    refine new_writer ?_
    intro p w2 hp hw2 hF2
    have hbp : b ≠ p := by omega
    have hbv : b ∉ fp (.slice none 0 0) := by simp [fp_nil]
    have hB2 := hB.fr hF2 (by simp)
    have hF12 := hF1.t hF2
    have hFp : ∀ i ∈ F3, i ≠ p ∧ i ∉ fp (.slice none 0 0) := fun i hi => ⟨by have := hlt i (by simp [hi]); omega, by simp [fp_nil]⟩
    have hFq : ∀ i ∈ F4, i ≠ p ∧ i ∉ fp (.slice none 0 0) := fun i hi => ⟨by have := hlt i (by simp [hi]); omega, by simp [fp_nil]⟩
    refine fad (ldC_bk hB2 rfl ?_)
    refine fad (ldC_bk hB2 rfl ?_)
    refine fad (ldC_bk hB2 rfl ?_)
    refine int_lit (l := [a0, a1, a2]) hI1 hw2 (by simp) rfl rfl (by omega) ?_
    intro v3 w3 hw3 hs3
    obtain ⟨hB3, hbv3⟩ := hs3.bk hB2 hbp hbv
    refine fad (ldC_bk hB3 rfl ?_)
    have h32 := sInts.fr h3 hF12 (fun i _ => by simp)
    have h42 := (sLease.list (by decide)).fr h4 hF12 (fun i _ => by simp)
    obtain ⟨_, hI2, hsrc⟩ := ints_src (hs3.rd h32 hFp) (hs3.apart hFp (sInts.lt h32))
    refine (w_list hI2 hw3 hsrc (by simp only [List.length_append, List.length_nil]; omega)).use ?_
    rintro _ w4 ⟨rfl, v4, hw4, hs4⟩
    obtain ⟨hB4, hbv4⟩ := hs4.bk hB3 hbp hbv3
    refine fad (ldC_bk hB4 rfl ?_)
    have hst := hs3.trans hs4
    refine (each_api_Lease_c (C := cLease) (long := longX) (keepsT p) trivial (bound_of (wl_c p)).k hw4 (hst.rd h42 hFq) (hst.apart hFq ((sLease.list (by decide)).lt h42)) (by simp only [List.length_append, List.length_nil]; omega) (by omega)).use ?_
    rintro _ w5 ⟨rfl, v5, hw5, hs5⟩
    have hst5 := hst.trans hs5
    have hF05 : Fr [] w w5 := hF12.trans hst5.fr (fun i hi => by
      rcases List.mem_cons.1 hi with rfl | hi
      · right; omega
      · simp [fp_nil] at hi)
    have e : [] ++ wholes [a0, a1, a2] ++ listN l2 ++ cLease.list.enc l3 = wholes [a0, a1, a2] ++ (listN l2 ++ cLease.list.enc l3) := by simp
    have e2 : (if longL longX l3 = true then (3 : Int) else cnt l2.length 0) = if longA ([a0, a1, a2], l2, l3) then 3 else 0 := by
      show (if longL longX l3 = true then (3 : Int) else if 1024 < l2.length then 3 else 0) = if (decide (1024 < l2.length) || longL longX l3) = true then 3 else 0
      cases longL longX l3 <;> by_cases h : 1024 < l2.length <;> simp [h]
    rw [e, e2] at hw5
    exact done_told hw5 hF05 (fun i hi => (hst5.sub i hi).elim (fun h => by simp [fp_nil] at h) (fun h => Nat.le_trans hF12.size h))
/-- The closure that writes a queue's hunger: the variable b0 holds the writer. -/
def HoldsW (b0 p : Nat) (w : World) : Prop := Bk w b0 70 [.pointer (some ⟨p, 0, none⟩)]
theorem hunger_w {b0 p : Nat} (hne : b0 ≠ p) {w : World} {bs : List Nat} {er : Int} {v : Value} {cs : List Value} {a : List Int} {F : List Nat} (hh : HoldsW b0 p w) (hw : Wr w p bs er v) (hr : (sInt.rep 2).rd w cs a F) (hb : bs.length + 10 * ((cInt.rep 2).enc a).length ≤ 99999990000) :
    CallV Try.prog (.func (.func 72) #[] #[.pointer (some ⟨b0, 0, none⟩)]) #[.agg cs.toArray] w fun r w' => r = .tuple #[] ∧ ∃ v', Wr w' p (bs ++ (cInt.rep 2).enc a) er v' ∧ WStep p w v w' v' := by
  obtain ⟨hl, rfl, rfl, hI⟩ := of_rep hr
  match a, hl with
  | [a0, a1], _ =>
    have henc : (cInt.rep 2).enc [a0, a1] = wholes [a0, a1] := rfl
    rw [henc] at hb ⊢
    refine callV_of (C_command_EncodeState_1_link ?_)
    show C_command_EncodeState_1 (.agg (ints [a0, a1]).toArray) (.pointer (some ⟨b0, 0, none⟩)) w _
    unfold C_command_EncodeState_1
    refine box' (l := ints [a0, a1]) rfl ?_
    intro b w1 hb1 hB hF1 hs1
    refine ldC_bk (hh.fr hF1 (by simp)) rfl ?_
    refine fad (ldC_bk hB rfl ?_)
    refine fad (ldC_bk hB rfl ?_)
    refine int_lit (l := [a0, a1]) hI (hw.fresh hF1) (by simp; omega) rfl rfl (by omega) ?_
    intro v2 w2 hw2 hs2
    exact ⟨rfl, v2, hw2, (WStep.fresh v hF1).trans hs2⟩
theorem hunger_k {b0 p : Nat} (hne : b0 ≠ p) : WrK (fun w v => HoldsW b0 p w ∧ b0 ∉ fp v) true (sInt.rep 2) (cInt.rep 2) (fun _ => false) p fun x w k => CallV Try.prog (.func (.func 72) #[] #[.pointer (some ⟨b0, 0, none⟩)]) #[x] w k :=
  fun w bs er v cs a F hK hw hr hF hb => hunger_w hne hK.1 hw hr hb
theorem hunger_keeps {b0 p : Nat} (hne : b0 ≠ p) : Keeps (fun w v => HoldsW b0 p w ∧ b0 ∉ fp v) p :=
  fun w v w' v' h hs => hs.bk h.1 hne h.2
theorem pos_rep (n : Nat) : ∀ a : List Int, 1 ≤ ((cInt.rep n).enc a).length ∨ a = [] := fun a => by
  cases a with
  | nil => exact .inr rfl
  | cons x l =>
    left
    show 1 ≤ (wholes (x :: l)).length
    have := len_wholes (x :: l)
    simp only [List.length_cons] at this; omega
theorem len_rep {n : Nat} (hn : 0 < n) (l : List (List Int)) (h : ∀ a ∈ l, a.length = n) : l.length ≤ ((cInt.rep n).list.enc l).length := by
  show l.length ≤ (layN l.length ++ l.flatMap (cInt.rep n).enc).length
  have : l.length ≤ (l.flatMap (cInt.rep n).enc).length := by
    induction l with
    | nil => simp
    | cons x l ih =>
      have h1 := ih (fun a ha => h a (by simp [ha]))
      have h2 : 1 ≤ ((cInt.rep n).enc x).length := (pos_rep n x).resolve_right (fun e => by have := h x (by simp); rw [e] at this; simp at this; omega)
      rw [List.flatMap_cons, List.length_append, List.length_cons]; omega
  rw [List.length_append]; omega
theorem rows_rep {n : Nat} {w : World} : ∀ {l : List (List Int)} {cs : List Value} {F : List Nat}, (sInt.rep n).rows w l cs F → ∀ a ∈ l, a.length = n
  | [], _, _, _, a, ha => by simp at ha
  | b :: l, _, _, ⟨c1, c2, F1, F2, _, _, h1, h2⟩, a, ha => by
    rcases List.mem_cons.1 ha with rfl | ha
    · exact h1.1
    · exact rows_rep h2 a ha

theorem if5 (a b c d e : Bool) : (if a = true then (3 : Int) else if b = true then 3 else if c = true then 3 else if d = true then 3 else if e = true then 3 else 0) = if (e || (d || (c || (b || a)))) = true then 3 else 0 := by
  cases a <;> cases b <;> cases c <;> cases d <;> cases e <;> rfl
theorem encodeState_c {w : World} {cs : List Value} {a : DState} {F : List Nat} (hr : sState.rd w cs a F) (hb : 10 * (cState.enc a).length ≤ 99999990000) :
    CallF Try.prog 27 #[.agg cs.toArray] w fun r w' => Told w r w' (cState.enc a) (if longS a then 3 else 0) := by
  have hlt := sState.lt hr
  obtain ⟨c1, c2, F1, F2, rfl, rfl, h1, c3, c4, F3, F4, rfl, rfl, h3, c5, c6, F5, F6, rfl, rfl, h5, c7, c8, F7, F8, rfl, rfl, h7, c9, c10, F9, F10, rfl, rfl, h9, h10⟩ := hr
  obtain ⟨l1, l3, l5, l7, l9, l10⟩ := a
  obtain ⟨hl1, rfl, rfl, hI1⟩ := of_rep h1
  obtain ⟨A3, k3, rfl⟩ := list_one _ h3
  obtain ⟨A5, k5, rfl⟩ := list_one _ h5
  obtain ⟨A7, k7, rfl⟩ := list_one _ h7
  obtain ⟨A9, k9, rfl⟩ := list_one _ h9
  obtain ⟨A10, k10, rfl⟩ := list_one _ h10
  simp only at hl1 hI1 h3 h5 h7 h9 h10
  have r3 : ∀ a ∈ l3, a.length = 7 := by obtain ⟨_, _, _, _, _, _, hrows, _⟩ := h3; exact rows_rep hrows
  have r5 : ∀ a ∈ l5, a.length = 5 := by obtain ⟨_, _, _, _, _, _, hrows, _⟩ := h5; exact rows_rep hrows
  have r10 : ∀ a ∈ l10, a.length = 2 := by obtain ⟨_, _, _, _, _, _, hrows, _⟩ := h10; exact rows_rep hrows
  match l1, hl1 with
  | [a0, a1, a2], _ =>
    have henc : cState.enc ([a0, a1, a2], l3, l5, l7, l9, l10) = wholes [a0, a1, a2] ++ ((cInt.rep 7).list.enc l3 ++ ((cInt.rep 5).list.enc l5 ++ (cTask.list.enc l7 ++ (cLease.list.enc l9 ++ (cInt.rep 2).list.enc l10)))) := rfl
    rw [henc] at hb ⊢
    simp only [List.length_append] at hb
    have n1 := wholes_le [a0, a1, a2] 3 (by simp)
    have n3 := len_rep (by omega) l3 r3
    have n5 := len_rep (by omega) l5 r5
    have n7 := enc_len_list cTask l7 pos_task
    have n9 := enc_len_list cLease l9 pos_lease
    have n10 := len_rep (by omega) l10 r10
    refine C_command_EncodeState_link ?_
    unfold C_command_EncodeState
    refine box' (l := ints [a0, a1, a2] ++ ([.slice A3 l3.length k3] ++ ([.slice A5 l5.length k5] ++ ([.slice A7 l7.length k7] ++ ([.slice A9 l9.length k9] ++ [.slice A10 l10.length k10]))))) rfl ?_
    intro b w1 hb1 hB hF1 hs1
    refine new_writer ?_
    intro p w2 hp hw2 hF2
    refine alloc_n (n := 1) (by kernel_rfl) ?_
    intro b0 w3 z3 hz3 hb03 hB03 hF3 hs3
    refine store' hB03 (by kernel_rfl) (by omega) rfl ?_
    intro w4 hB04 hF4 hs4
    have hz : z3.set 0 (.pointer (some ⟨p, 0, none⟩)) = [.pointer (some ⟨p, 0, none⟩)] := by
      obtain ⟨z, rfl⟩ := List.length_eq_one_iff.1 hz3
      rfl
    rw [hz] at hB04
    have hbp : b ≠ p := by omega
    have hb0p : b0 ≠ p := by have := hw2.blk.lt; omega
    have hb0b : b0 ≠ b := by have := hF2.size; omega
    have hF12 := hF1.t hF2
    have hF24 : Fr [] w2 w4 := hF3.trans hF4 (fun i hi => .inr (by simp at hi; omega))
    have hF14 := hF12.t hF24
    have hw4 := hw2.fresh hF24
    have hB4 := (hB.fr hF2 (by simp)).fr hF24 (by simp)
    have hbv : b ∉ fp (.slice none 0 0) := by simp [fp_nil]
    have hb0v : b0 ∉ fp (.slice none 0 0) := by simp [fp_nil]
    have big : ∀ i, i < w.heap.size → i ≠ p ∧ i ∉ fp (.slice none 0 0) := fun i hi => ⟨by omega, by simp [fp_nil]⟩
    have q3 : ∀ i ∈ F3, i ≠ p ∧ i ∉ fp (.slice none 0 0) := fun i hi => big i (hlt i (by simp [hi]))
    have q5 : ∀ i ∈ F5, i ≠ p ∧ i ∉ fp (.slice none 0 0) := fun i hi => big i (hlt i (by simp [hi]))
    have q7 : ∀ i ∈ F7, i ≠ p ∧ i ∉ fp (.slice none 0 0) := fun i hi => big i (hlt i (by simp [hi]))
    have q9 : ∀ i ∈ F9, i ≠ p ∧ i ∉ fp (.slice none 0 0) := fun i hi => big i (hlt i (by simp [hi]))
    have q10 : ∀ i ∈ F10, i ≠ p ∧ i ∉ fp (.slice none 0 0) := fun i hi => big i (hlt i (by simp [hi]))
    have g3 := ((sInt.rep 7).list (by decide)).fr h3 hF14 (fun i _ => by simp)
    have g5 := ((sInt.rep 5).list (by decide)).fr h5 hF14 (fun i _ => by simp)
    have g7 := (sTask.list (by decide)).fr h7 hF14 (fun i _ => by simp)
    have g9 := (sLease.list (by decide)).fr h9 hF14 (fun i _ => by simp)
    have g10 := ((sInt.rep 2).list (by decide)).fr h10 hF14 (fun i _ => by simp)
    refine ldC_bk hB04 rfl ?_
    refine fad (ldC_bk hB4 rfl ?_)
    refine fad (ldC_bk hB4 rfl ?_)
    refine fad (ldC_bk hB4 rfl ?_)
    refine int_lit (l := [a0, a1, a2]) hI1 hw4 (by simp) rfl rfl (by omega) ?_
    intro v5 w5 hw5 hst
    obtain ⟨hB5, hbv5⟩ := hst.bk hB4 hbp hbv
    obtain ⟨hP5, hpv5⟩ := hst.bk hB04 hb0p hb0v
    refine ldC_bk hP5 rfl (fad (ldC_bk hB5 rfl (ldC_bk hP5 rfl ?_)))
    refine (each_api_Queue_c (C := cInt.rep 7) (long := fun _ => false) (keepsT p) trivial (bound_of (wq_c p)).k hw5 (hst.rd g3 q3) (hst.apart q3 (((sInt.rep 7).list (by decide)).lt g3)) (by simp only [List.length_append, List.length_nil]; omega) (by omega)).use ?_
    rintro _ w6 ⟨rfl, v6, hw6, hs6⟩
    replace hst := hst.trans hs6
    obtain ⟨hB6, hbv6⟩ := hst.bk hB4 hbp hbv
    obtain ⟨hP6, hpv6⟩ := hst.bk hB04 hb0p hb0v
    refine ldC_bk hP6 rfl (fad (ldC_bk hB6 rfl (ldC_bk hP6 rfl ?_)))
    refine (each_api_Node_c (C := cInt.rep 5) (long := fun _ => false) (keepsT p) trivial (bound_of (wn_c p)).k hw6 (hst.rd g5 q5) (hst.apart q5 (((sInt.rep 5).list (by decide)).lt g5)) (by simp only [List.length_append, List.length_nil]; omega) (by omega)).use ?_
    rintro _ w7 ⟨rfl, v7, hw7, hs7⟩
    replace hst := hst.trans hs7
    obtain ⟨hB7, hbv7⟩ := hst.bk hB4 hbp hbv
    obtain ⟨hP7, hpv7⟩ := hst.bk hB04 hb0p hb0v
    refine ldC_bk hP7 rfl (fad (ldC_bk hB7 rfl (ldC_bk hP7 rfl ?_)))
    refine (each_api_Task_c (C := cTask) (long := longT) (keepsT p) trivial (bound_of (wt_c p)).k hw7 (hst.rd g7 q7) (hst.apart q7 ((sTask.list (by decide)).lt g7)) (by simp only [List.length_append, List.length_nil]; omega) (by omega)).use ?_
    rintro _ w8 ⟨rfl, v8, hw8, hs8⟩
    replace hst := hst.trans hs8
    obtain ⟨hB8, hbv8⟩ := hst.bk hB4 hbp hbv
    obtain ⟨hP8, hpv8⟩ := hst.bk hB04 hb0p hb0v
    refine ldC_bk hP8 rfl (fad (ldC_bk hB8 rfl (ldC_bk hP8 rfl ?_)))
    refine (each_api_Lease_c (C := cLease) (long := longX) (keepsT p) trivial (bound_of (wl_c p)).k hw8 (hst.rd g9 q9) (hst.apart q9 ((sLease.list (by decide)).lt g9)) (by simp only [List.length_append, List.length_nil]; omega) (by omega)).use ?_
    rintro _ w9 ⟨rfl, v9, hw9, hs9⟩
    replace hst := hst.trans hs9
    obtain ⟨hB9, hbv9⟩ := hst.bk hB4 hbp hbv
    obtain ⟨hP9, hpv9⟩ := hst.bk hB04 hb0p hb0v
    refine ldC_bk hP9 rfl (fad (ldC_bk hB9 rfl ?_))
    refine (each_api_Hunger_c (C := cInt.rep 2) (long := fun _ => false) (hunger_keeps hb0p) ⟨hP9, hpv9⟩ (hunger_k hb0p) hw9 (hst.rd g10 q10) (hst.apart q10 (((sInt.rep 2).list (by decide)).lt g10)) (by simp only [List.length_append, List.length_nil]; omega) (by omega)).use ?_
    rintro _ w10 ⟨rfl, v10, hw10, hs10⟩
    replace hst := hst.trans hs10
    obtain ⟨hP10, hpv10⟩ := hst.bk hB04 hb0p hb0v
    refine ldC_bk hP10 rfl ?_
    have hF010 : Fr [] w w10 := hF14.trans hst.fr (fun i hi => by
      rcases List.mem_cons.1 hi with rfl | hi
      · right; omega
      · simp [fp_nil] at hi)
    have e : [] ++ wholes [a0, a1, a2] ++ (cInt.rep 7).list.enc l3 ++ (cInt.rep 5).list.enc l5 ++ cTask.list.enc l7 ++ cLease.list.enc l9 ++ (cInt.rep 2).list.enc l10 = wholes [a0, a1, a2] ++ ((cInt.rep 7).list.enc l3 ++ ((cInt.rep 5).list.enc l5 ++ (cTask.list.enc l7 ++ (cLease.list.enc l9 ++ (cInt.rep 2).list.enc l10)))) := by simp
    rw [e] at hw10
    have e2 : (if longL (fun _ => false) l10 = true then (3 : Int) else if longL longX l9 = true then 3 else if longL longT l7 = true then 3 else if longL (fun _ => false) l5 = true then 3 else if longL (fun _ => false) l3 = true then 3 else 0) = if longS ([a0, a1, a2], l3, l5, l7, l9, l10) then 3 else 0 := by
      exact if5 _ _ _ _ _
    rw [e2] at hw10
    exact done_told hw10 hF010 (fun i hi => (hst.sub i hi).elim (fun h => by simp [fp_nil] at h) (fun h => by have := hF14.size; omega))
end Go.Proofs.Ytachignmofpngaa
