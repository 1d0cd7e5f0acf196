/- Contracts of package store: eldest, root, blocks. -/
import Derived.Test.YtmlaconjeplhpaaStoreB
set_option linter.unusedVariables false
set_option linter.unusedSimpArgs false
set_option maxRecDepth 20000
namespace Go.Proofs.Ytmlaconjeplhpaa
open Go Go.Vc
open St (Dsk All64 Blk pad four put4 halfN base putF mkL mkB eldest maxL lifeOf bGen bLife bUsed bDat rootF cand magicN hb walk)

theorem eldest_c {w : World} {pd bb : Nat} {lv : Value} {D : Dsk} (h : Dk w pd bb lv D) : CallF Try.prog 65 #[ptr pd] w fun r w' => r = .int .u32 (eldest D.B : Nat) ∧ Fr [] w w' := by
  refine C_store_eldest_link ?_
  unfold C_store_eldest
  have hlen := h.len
  refine ⟨fun m life n w' => ∃ j l : Nat, j + m = D.B.length + 2 ∧ 2 ≤ j ∧ n = .int .i64 j ∧ life = .int .u32 l ∧ l = maxL ((D.B.drop 2).take (j - 2)) ∧ l < 4294967296 ∧ Fr [] w w', D.B.length, ⟨2, 0, by omega, by omega, rfl, rfl, rfl, by omega, Fr.refl _ _⟩, ?_⟩
  rintro m _ _ w1 ⟨j, l, hj, hj2, rfl, rfl, hl, hlt, hF1⟩
  refine (dblocks_c (h.fresh hF1)).use ?_
  rintro _ w2 ⟨rfl, rfl⟩
  refine lss (if_p (fun hjn => ?_) (fun hjn => ?_))
  · have hjl : j < D.B.length := by omega
    refine (dread_c (h.fresh hF1) j).use ?_
    rintro _ w3 ⟨v, rfl, hN⟩
    have hgd : D.B.getD j [] = D.B[j] := by rw [List.getD_eq_getElem?_getD, List.getElem?_eq_getElem hjl]; rfl
    have hbl := h.all _ (List.getElem_mem hjl)
    have htk : (D.B.drop 2).take (j + 1 - 2) = (D.B.drop 2).take (j - 2) ++ [D.B[j]] := by
      rw [show j + 1 - 2 = (j - 2) + 1 by omega, List.take_succ_eq_append_getElem (by rw [List.length_drop]; omega), List.getElem_drop]
      congr 3
      omega
    have hmx : maxL ((D.B.drop 2).take (j + 1 - 2)) = max l (lifeOf D.B[j]) := by
      rw [htk, hl]; unfold maxL; rw [List.foldl_append]; rfl
    rw [hgd] at hN
    generalize D.B[j] = b at *
    refine ext0 (ext1 ?_)
    refine (four_c hN.own.sl (by omega) hbl.2).use ?_
    rintro _ w4 ⟨rfl, hF4⟩
    have hF14 := (hF1.t hN.fr).t hF4
    refine gtr ⟨fun life' w' => ∃ l', life' = .int .u32 (l' : Nat) ∧ l' = max l (lifeOf b) ∧ l' < 4294967296 ∧ Fr [] w w', ?_, if_p (fun hg => ?_) (fun hg => ?_)⟩
    · rintro _ w5 ⟨l', rfl, he, hl', hF5⟩
      exact add64 (by omega) ⟨m - 1, by omega, j + 1, l', by omega, by omega, by congr 1, rfl, by rw [hmx, he], hl', hF5⟩
    · have hs4 := hN.own.sl.fr hF4 (fun i _ => by simp)
      refine blo (l := 4) hs4 hN.own.cap (by omega) ?_
      intro x hx _ _
      refine (four_c hx (by rw [List.length_drop]; omega) (fun c hc => hbl.2 c (List.mem_of_mem_drop hc))).use ?_
      rintro _ w5 ⟨rfl, hF5⟩
      have hlf : lifeOf b = four (b.drop 4) := by unfold lifeOf bLife; rw [if_pos (by unfold bGen; omega)]
      have hf := St.four_lt (l := b.drop 4) (fun c hc => hbl.2 c (List.mem_of_mem_drop hc))
      refine max2 ⟨max l (lifeOf b), ?_, rfl, by rw [hlf]; omega, hF14.t hF5⟩
      rw [hlf]
      congr 1
      split <;> omega
    · have hlf : lifeOf b = 0 := by unfold lifeOf; rw [if_neg (by unfold bGen; omega)]
      exact ⟨l, rfl, by rw [hlf]; omega, hlt, hF14⟩
  · refine addw ⟨?_, hF1⟩
    have e : (D.B.drop 2).take (j - 2) = D.B.drop 2 := List.take_of_length_le (by rw [List.length_drop]; omega)
    rw [IntKind.wrap_u32]
    unfold eldest
    rw [← e, ← hl]
    congr 1
theorem ne_str {P : Program} {S : World → Prop} {t : TypeId} {cx cy : Bool} {a b : ByteArray} {k : Value → Prop} (h : k (.bool (decide (a ≠ b)))) : Bin P S .neq t cx cy (.string a) (.string b) k := by
  refine ⟨_, fun w hw => ?_, h⟩
  have e : (a.toList == b.toList) = decide (a = b) := by
    by_cases h : a = b
    · subst h; simp
    · have : a.toList ≠ b.toList := fun e => h (by
        rw [ByteArray.toList_eq, ByteArray.toList_eq] at e
        cases a with | mk x => cases b with | mk y => exact congrArg ByteArray.mk (Array.ext' e))
      simp [h, this]
  have e2 : (a.toList != b.toList) = decide (a ≠ b) := by rw [bne, e]; by_cases h : a = b <;> simp [h]
  simp [binSem, eqGuard, binOp, Op.stringOp, e, e2]
theorem root_c {w : World} {pd bb : Nat} {lv : Value} {D : Dsk} (h : Dk w pd bb lv D) : CallF Try.prog 66 #[ptr pd] w fun r w' => r = .tuple #[.int .u32 (rootF D.B).1, .int .i64 (rootF D.B).2.1, .bool (rootF D.B).2.2] ∧ (rootF D.B).1 < 4294967296 ∧ (rootF D.B).2.1 < 4294967296 ∧ Fr [] w w' := by
  refine C_store_root_link ?_
  unfold C_store_root
  refine ⟨fun m g s wh n w' => ∃ (j : Nat) (r : Nat × Nat × Bool), j + m = 2 ∧ n = .int .i64 j ∧ g = .int .u32 r.1 ∧ s = .int .i64 r.2.1 ∧ wh = .bool r.2.2 ∧ (j = 0 → r = (1, 0, false)) ∧ (j = 1 → r = cand 0 D.B[0]? (1, 0, false)) ∧ (j = 2 → r = rootF D.B) ∧ r.1 < 4294967296 ∧ r.2.1 < 4294967296 ∧ Fr [] w w', 2,
    ⟨0, (1, 0, false), by omega, rfl, rfl, rfl, rfl, fun _ => rfl, fun h => by omega, fun h => by omega, by simp, by simp, Fr.refl _ _⟩, ?_⟩
  rintro m _ _ _ _ w1 ⟨j, r, hj, rfl, rfl, rfl, rfl, h0, h1, h2, hg, hs, hF1⟩
  refine lss (if_p (fun hlt => ?_) (fun hge => ?_))
  · have hj2 : j = 0 ∨ j = 1 := by omega
    -- the next
    have nxt : ∀ (r' : Nat × Nat × Bool) (w' : World), r' = cand j D.B[j]? r → r'.1 < 4294967296 → r'.2.1 < 4294967296 → Fr [] w w' → ∃ (j' : Nat) (r2 : Nat × Nat × Bool), j' + (m - 1) = 2 ∧ Value.int .i64 ((j : Int) + 1) = .int .i64 j' ∧ Value.int .u32 r'.1 = .int .u32 r2.1 ∧ Value.int .i64 r'.2.1 = .int .i64 r2.2.1 ∧ Value.bool r'.2.2 = .bool r2.2.2 ∧ (j' = 0 → r2 = (1, 0, false)) ∧ (j' = 1 → r2 = cand 0 D.B[0]? (1, 0, false)) ∧ (j' = 2 → r2 = rootF D.B) ∧ r2.1 < 4294967296 ∧ r2.2.1 < 4294967296 ∧ Fr [] w w' := by
      intro r' w' hr' q1 q2 q3
      refine ⟨j + 1, r', by omega, by congr 1, rfl, rfl, rfl, fun h => by omega, fun h => ?_, fun h => ?_, q1, q2, q3⟩
      · obtain rfl : j = 0 := by omega
        rw [hr', h0 rfl]
      · obtain rfl : j = 1 := by omega
        rw [hr', h1 rfl]; rfl
    refine ⟨fun g s wh w' => ∃ r' : Nat × Nat × Bool, g = .int .u32 r'.1 ∧ s = .int .i64 r'.2.1 ∧ wh = .bool r'.2.2 ∧ r' = cand j D.B[j]? r ∧ r'.1 < 4294967296 ∧ r'.2.1 < 4294967296 ∧ Fr [] w w', ?_, ?_⟩
    · rintro _ _ _ w2 ⟨r', rfl, rfl, rfl, he, q1, q2, q3⟩
      exact add64 (by omega) ⟨m - 1, by omega, nxt r' w2 he q1 q2 q3⟩
    refine (dread_c (h.fresh hF1) j).use ?_
    rintro _ w2 ⟨v, rfl, hN⟩
    refine ext0 (ext1 (neq ?_))
    have hF2 := hF1.t hN.fr
    by_cases hjl : j < D.B.length
    case neg =>
      have e : D.B[j]? = none := List.getElem?_eq_none (by omega)
      rw [if_neg hjl]
      refine gdF rfl (gdF rfl (gF rfl (gdF rfl (pick_t rfl (if_t rfl ⟨r, rfl, rfl, rfl, by rw [e]; rfl, hg, hs, hF2⟩)))))
    have e : D.B[j]? = some D.B[j] := List.getElem?_eq_getElem hjl
    have hgd : D.B.getD j [] = D.B[j] := by rw [List.getD_eq_getElem?_getD, e]; rfl
    have hbl := h.all _ (List.getElem_mem hjl)
    rw [hgd] at hN
    rw [if_pos hjl, e]
    generalize D.B[j] = b at *
    have htl : (b.take 8).length = 8 := by rw [List.length_take]; omega
    refine gdT rfl rfl ?_
    have hsl := hN.own.sl
    obtain ⟨x8, hx8, hsx⟩ : ∃ x8, SlcS 1 v none (some (.int .i64 8)) none (fun u => u = x8) ∧ Sl w2 1 x8 (b.take 8).length (bytes (b.take 8)) := by
      have := bhi (m := 8) (κ := .i64) (k := fun u => Sl w2 1 u (b.take 8).length (bytes (b.take 8))) hsl hN.own.cap (by omega) (fun v' q1 _ _ => q1)
      obtain ⟨A, c, rfl, hh⟩ := id hsl
      unfold SlcS bnds at this ⊢
      exact ⟨_, ⟨this.1, this.2.1, this.2.2.1, rfl⟩, this.2.2.2⟩
    refine gdT rfl hx8 (gT rfl ?_)
    refine do_bytes_string Try.underlying24 Try.underlying5 Try.underlying9 hsx (fun c hc => hbl.2 c (List.mem_of_mem_take hc)) ?_
    have hmag : (⟨#[102, 117, 114, 108, 111, 110, 103, 49]⟩ : ByteArray) = strOf magicN := by decide
    refine gdT rfl (ne_str rfl) (pick_f rfl ?_)
    rw [hmag]
    have hmi : strOf (b.take 8) = strOf magicN ↔ b.take 8 = magicN := strOf_inj (fun c hc => hbl.2 c (List.mem_of_mem_take hc)) (by decide)
    refine if_p (fun hne => ?_) (fun heq => ?_)
    · refine ⟨r, rfl, rfl, rfl, ?_, hg, hs, hF2⟩
      simp only [cand]
      rw [if_neg (fun hc => hne (hmi.2 hc.1))]
    have hm : b.take 8 = magicN := by
      by_cases q : strOf (b.take 8) = strOf magicN
      · exact hmi.1 q
      · exact absurd q heq
    refine blo (l := 8) hsl hN.own.cap (by omega) ?_
    intro x9 hx9 _ _
    refine (four_c hx9 (by rw [List.length_drop]; omega) (fun c hc => hbl.2 c (List.mem_of_mem_drop hc))).use ?_
    rintro _ w3 ⟨rfl, hF3⟩
    have hf8 := St.four_lt (l := b.drop 8) (fun c hc => hbl.2 c (List.mem_of_mem_drop hc))
    have hf12 := St.four_lt (l := b.drop 12) (fun c hc => hbl.2 c (List.mem_of_mem_drop hc))
    have hF03 := hF2.t hF3
    refine gtr ?_
    have J : ∀ {p : Prop}, (p → p) := fun h => h
    have fin : ∀ (q : Bool), (q = true ↔ (r.1 < four (b.drop 8) ∧ four (b.drop 8) % 2 = j)) →
       (∃ J_38 : Value → Value → Value → World → Prop,
       (∀ gen_2_39, ∀ size_3_40, ∀ whole_4_41, ∀ w_42, J_38 gen_2_39 size_3_40 whole_4_41 w_42 → (
        ∃ r' : Nat × Nat × Bool, gen_2_39 = .int .u32 r'.1 ∧ size_3_40 = .int .i64 r'.2.1 ∧ whole_4_41 = .bool r'.2.2 ∧ r' = cand j (some b) r ∧ r'.1 < 4294967296 ∧ r'.2.1 < 4294967296 ∧ Fr [] w w_42)) ∧
       If (.bool q) (
        SlcS 1 v (some (.int .i64 12)) none none fun t41_43 =>
        CallF Try.prog 68 #[t41_43] w3 fun t42_44 w_45 =>
        ConvI .i64 t42_44 fun t43_46 =>
        J_38 (.int .u32 (four (b.drop 8) : Nat)) t43_46 (.bool true) w_45) (
        J_38 (.int .u32 r.1) (.int .i64 r.2.1) (.bool r.2.2) w3)) := by
      intro q hq
      refine ⟨_, fun _ _ _ _ h => h, if_b (fun ht => ?_) (fun hf => ?_)⟩
      · obtain ⟨q1, q2⟩ := hq.1 ht
        refine blo (l := 12) (hsl.fr hF3 (fun i _ => by simp)) hN.own.cap (by omega) ?_
        intro x10 hx10 _ _
        refine (four_c hx10 (by rw [List.length_drop]; omega) (fun c hc => hbl.2 c (List.mem_of_mem_drop hc))).use ?_
        rintro _ w4 ⟨rfl, hF4⟩
        refine conv_i64 (by omega) ⟨(four (b.drop 8), four (b.drop 12), true), rfl, rfl, rfl, ?_, hf8, hf12, hF03.t hF4⟩
        simp only [cand]
        rw [if_pos ⟨hm, q1, q2⟩]
      · refine ⟨r, rfl, rfl, rfl, ?_, hg, hs, hF03⟩
        simp only [cand]
        rw [if_neg (fun hc => by have := hq.2 ⟨hc.2.1, hc.2.2⟩; rw [hf] at this; cases this)]
    by_cases hgt : (r.1 : Int) < (four (b.drop 8) : Int)
    · refine gdT (by simp [isB, hgt]) rfl (gdT (by simp [isB, hgt]) (rem (by omega) rfl) (gdT (by simp [isB, hgt]) (conv_i64 ?_ rfl) (gdT (by simp [isB, hgt]) rfl (gdT (by simp [isB, hgt]) (eql rfl) (pick_t (by simp [hgt]) ?_)))))
      · have e2 : ((four (b.drop 8) : Int).tmod 2) = ((four (b.drop 8) % 2 : Nat) : Int) := rfl
        rw [e2]; omega
      · refine fin _ ?_
        have e2 : ((four (b.drop 8) : Int).tmod 2) = ((four (b.drop 8) % 2 : Nat) : Int) := rfl
        rw [e2, decide_eq_true_eq]
        omega
    · refine gdF (by simp [isB, hgt]) (gdF (by simp [isB, hgt]) (gdF (by simp [isB, hgt]) (gdF (by simp [isB, hgt]) (gdF (by simp [isB, hgt]) (pick_f (by simp [hgt]) ?_)))))
      refine fin false ?_
      constructor
      · intro h; cases h
      · rintro ⟨q1, _⟩; omega
  · have hj2 : j = 2 := by omega
    rw [h2 hj2] at *
    exact ⟨rfl, hg, hs, hF1⟩
end Go.Proofs.Ytmlaconjeplhpaa
