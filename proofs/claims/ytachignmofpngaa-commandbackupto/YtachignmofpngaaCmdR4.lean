/- Contracts of package command's lists of things, one kind of thing behind the other. -/
import Derived.Test.YtachignmofpngaaCmdR3
set_option linter.unusedVariables false
set_option linter.unusedSimpArgs false
set_option maxRecDepth 20000
namespace Go.Proofs.Ytachignmofpngaa
open Go Go.Vc

/-- A way to read one thing, as a value that is called. -/
def OneC {α : Type} (agg : Bool) (S : Shape α) (C : Codec α) (p : Nat) (one : Value) : Prop := RdF agg S C p fun w k => CallV Try.prog one #[] w k

/-! ### What the loops come to, whatever the things -/
def YOne (P : Program) (r : Go.Loop) (l : Value) (L : Nat) (LT : TypeId) (a : Value) (w : World) (k : Value → World → Prop) : Prop :=
   w.heap[L]? = some (LO r .ready none) ∧
   LdC (At (setO w L (LO r .busy none))) l fun t11 =>
   Do P (Instr.buildSlice LT 1 #[(0, a)]) (setO w L (LO r .busy none)) fun t13 w11 =>
   Do P (Builtin.append_ #[LT, LT] LT #[t11, t13]) w11 fun t14 w13 =>
   DoU P (Instr.storeAt LT l t14) w13 fun _ w15 =>
   w15.heap[L]? = some (LO r .busy none) ∧ k (.bool true) (setO w15 L (LO r .ready none))
def YAgg (P : Program) (r : Go.Loop) (l : Value) (L : Nat) (T LT : TypeId) (n : Nat) (a : Value) (w : World) (k : Value → World → Prop) : Prop :=
   Do P (Instr.alloc T true (.tuple #[])) w fun x w10 =>
   DoU P (Instr.storeAt T x a) w10 fun _ w12 =>
   w12.heap[L]? = some (LO r .ready none) ∧
   LdC (At (setO w12 L (LO r .busy none))) l fun t11 =>
   LdA (At (setO w12 L (LO r .busy none))) n x fun t12 =>
   Do P (Instr.buildSlice LT 1 #[(0, t12)]) (setO w12 L (LO r .busy none)) fun t13 w16 =>
   Do P (Builtin.append_ #[LT, LT] LT #[t11, t13]) w16 fun t14 w18 =>
   DoU P (Instr.storeAt LT l t14) w18 fun _ w20 =>
   w20.heap[L]? = some (LO r .busy none) ∧ k (.bool true) (setO w20 L (LO r .ready none))
def ThOne (P : Program) (x0 x1 x2 : Value) (w : World) (R : Value → World → Prop) : Prop :=
  LdC (At w) x1 fun t5_1 =>
  CallF P 100 #[t5_1, (.int .u64 1024), (.int .i64 3)] w fun t6_2 w_3 =>
  ∃ (I_4 : Nat → Value → World → Prop) (m_5 : Nat), I_4 m_5 (.int .u64 0) w_3 ∧
  ∀ m_6, ∀ t7_7, ∀ w_8, I_4 m_6 t7_7 w_8 →
   Bin P (At w_8) .lss 75 false false t7_7 t6_2 fun t8_9 =>
   If t8_9 (
    LdC (At w_8) x2 fun t9_10 =>
    CallV P t9_10 #[] w_8 fun t10_11 w_12 =>
    LdC (At w_12) x1 fun t11_13 =>
    NilC t11_13 fun t12_14 =>
    FAd 2 t12_14 fun t13_15 =>
    LdC (At w_12) t13_15 fun t14_16 =>
    Bin P (At w_12) .neq 38 false true t14_16 (.int .i64 0) fun t15_17 =>
    GdP (isB t15_17 false) (fun R => R x0) fun t17_18 =>
    GdP (isB t15_17 false) (fun R => R t10_11) fun t18_19 =>
    Gd (isB t15_17 false) (fun R => CallV P t17_18 #[t18_19] w_12 R) w_12 fun t19_20 w_21 =>
    GdP (isB t15_17 false) (fun R => Un P (At w_21) .not t19_20 R) fun t20_22 =>
    Pick t15_17 (.bool true) t20_22 fun t21_23 =>
    If t21_23 (
     R (.tuple #[]) w_21) (
     Bin P (At w_21) .add 75 false true t7_7 (.int .u64 1) fun t22_24 =>
     ∃ m_25, m_25 < m_6 ∧
     I_4 m_25 t22_24 w_21)) (
    R (.tuple #[]) w_8)
def ThAgg (P : Program) (T : TypeId) (n : Nat) (x0 x1 x2 : Value) (w : World) (R : Value → World → Prop) : Prop :=
  LdC (At w) x1 fun t5_1 =>
  CallF P 100 #[t5_1, (.int .u64 1024), (.int .i64 3)] w fun t6_2 w_3 =>
  ∃ (I_4 : Nat → Value → World → Prop) (m_5 : Nat), I_4 m_5 (.int .u64 0) w_3 ∧
  ∀ m_6, ∀ t7_7, ∀ w_8, I_4 m_6 t7_7 w_8 →
   Bin P (At w_8) .lss 75 false false t7_7 t6_2 fun t8_9 =>
   If t8_9 (
    LdC (At w_8) x2 fun t9_10 =>
    CallV P t9_10 #[] w_8 fun t10_11 w_12 =>
    Do P (Instr.alloc T true (.tuple #[])) w_12 fun x_4_13 w_14 =>
    DoU P (Instr.storeAt T x_4_13 t10_11) w_14 fun u_15 w_16 =>
    LdC (At w_16) x1 fun t11_17 =>
    NilC t11_17 fun t12_18 =>
    FAd 2 t12_18 fun t13_19 =>
    LdC (At w_16) t13_19 fun t14_20 =>
    Bin P (At w_16) .neq 38 false true t14_20 (.int .i64 0) fun t15_21 =>
    GdP (isB t15_21 false) (fun R => R x0) fun t17_22 =>
    GdP (isB t15_21 false) (fun R => LdA (At w_16) n x_4_13 R) fun t18_23 =>
    Gd (isB t15_21 false) (fun R => CallV P t17_22 #[t18_23] w_16 R) w_16 fun t19_24 w_25 =>
    GdP (isB t15_21 false) (fun R => Un P (At w_25) .not t19_24 R) fun t20_26 =>
    Pick t15_21 (.bool true) t20_26 fun t21_27 =>
    If t21_27 (
     R (.tuple #[]) w_25) (
     Bin P (At w_25) .add 75 false true t7_7 (.int .u64 1) fun t22_28 =>
     ∃ m_29, m_29 < m_6 ∧
     I_4 m_29 t22_28 w_25)) (
    R (.tuple #[]) w_8)
section
variable {α : Type} {S : Shape α} {C : Codec α} {T LT OT : TypeId} {lo p : Nat} {rv : Value} {bs : List Nat} {r : Go.Loop} {one : Value} {w0 w : World} {hi : Nat} {s : PS}
/-- The list goes on as the codec says. -/
theorem decL_more {l : List α} {m : Nat} {s s0 : PS} {n : Nat} (h : decL C bs n s0 = (l ++ (decL C bs (m + 1) s).1, (decL C bs (m + 1) s).2)) :
    ((C.dec bs s).2.err ≠ 0 → decL C bs n s0 = (l, (C.dec bs s).2)) ∧ ((C.dec bs s).2.err = 0 → decL C bs n s0 = ((l ++ [(C.dec bs s).1]) ++ (decL C bs m (C.dec bs s).2).1, (decL C bs m (C.dec bs s).2).2)) := by
  rw [decL] at h
  constructor
  · intro he; rw [if_pos he] at h; rw [h]; simp
  · intro he; rw [if_neg (by simpa using he)] at h; rw [h]; simp
/-- What stands behind the loop. -/
def Gathered (S : Shape α) (C : Codec α) (T LT OT : TypeId) (lo p : Nat) (rv : Value) (bs : List Nat) (r : Go.Loop) (one : Value) (w0 : World) (s0 : PS) (w : World) : Prop :=
  ∃ hi, Gat S T LT OT lo p rv bs r one w0 w hi (decA C bs s0).1 (decA C bs s0).2
theorem decN_le (bs : List Nat) (s : PS) (bad : Int) : (decN 1024 bad bs s).1 ≤ 1024 := by
  unfold decN
  split
  · simp
  · split
    · simp
    · rename_i h1 h2
      by_cases h3 : (getN bs s.pos).2.2 = 0
      · simp only; omega
      · simp only; rw [getN_err _ _ h3]; omega

theorem th_one {z : Value} {bytes : Nat} (hS : S.size = 1) (hb1 : bytes ≤ 1000) (ht : Try.prog.underlying LT = some (.slice T)) (hinf : (Try.prog.info? T).map (fun i => (i.zero, i.size, i.bytes)) = some (some z, 1, bytes)) (hz : z.cells.size = 1) (hs1 : sizeT Try.prog LT = some 1)
    (ho : OneC false S C p one) (g : Gat S T LT OT lo p rv bs r one w0 w (lo + 5) [] s)
    (hy : ∀ a w k, w.heap[lo + 4]? = some (LO r .ready none) → YOne Try.prog r (.pointer (some ⟨lo, 0, none⟩)) (lo + 4) LT a w k → CallV Try.prog (yv (lo + 4)) #[a] w k) :
    ThOne Try.prog (yv (lo + 4)) (.pointer (some ⟨lo + 1, 0, none⟩)) (.pointer (some ⟨lo + 2, 0, none⟩)) w fun _ w' => Gathered S C T LT OT lo p rv bs r one w0 s w' := by
  unfold ThOne
  refine ldC_bk g.bx1 rfl ((upto_c g.rd (most := 1024) (bad := 3)).use ?_)
  rintro _ w1 ⟨rfl, hr1, hf1⟩
  have g1 := g.step hf1 hr1
  have hn := decN_le bs s 3
  have hA : decA C bs s = decL C bs (decN 1024 3 bs s).1 (decN 1024 3 bs s).2 := rfl
  unfold Gathered
  rw [hA]
  generalize (decN 1024 3 bs s).1 = n at *
  generalize (decN 1024 3 bs s).2 = s1 at *
  refine ⟨fun m i w' => ∃ (j : Nat) (l : List α) (s' : PS) (hi : Nat), j + m = n ∧ i = .int .u64 j ∧ l.length = j ∧ Gat S T LT OT lo p rv bs r one w0 w' hi l s' ∧ decL C bs n s1 = (l ++ (decL C bs m s').1, (decL C bs m s').2), n, ⟨0, [], s1, lo + 5, by omega, rfl, rfl, g1, by simp⟩, ?_⟩
  rintro m i w2 ⟨j, l, s2, hi2, hj, rfl, hl, g2, hd⟩
  refine lss (if_p (fun hlt => ?_) (fun hge => ?_))
  · obtain ⟨m, rfl⟩ : ∃ m', m = m' + 1 := ⟨m - 1, by omega⟩
    obtain ⟨hd1, hd2⟩ := decL_more hd
    refine ldC_bk g2.bx2 rfl ((ho w2 rv bs s2 g2.rd).mono ?_)
    rintro _ w3 ⟨cs, F, rfl, ha, hF, hr3, hf3⟩
    have g3 := g2.step hf3 hr3
    generalize (C.dec bs s2).1 = x at *
    generalize (C.dec bs s2).2 = s3 at *
    obtain ⟨v, rfl⟩ : ∃ v, cs = [v] := by
      have := S.len ha
      rw [hS] at this
      exact List.length_eq_one_iff.1 this
    have hv := S.one ha v (by simp)
    rw [asV_one]
    refine ldC_bk g3.bx1 rfl (nilC (fad (ldC_bk g3.rd.blk rfl (neq ?_))))
    by_cases he : s3.err = 0
    · refine gdT (by simp [isB, he]) rfl (gdT (by simp [isB, he]) rfl (gT (by simp [isB, he]) (hy _ _ _ g3.lp ⟨g3.lp, ?_⟩)))
      have hi2w : hi2 ≤ w2.heap.size := g2.hle
      have hlow := g2.lp
      have hlow := heap_lt hlow
      have hpush := g3.push (a := x) (cs := [v]) (F := F) (u := v) (k := fun v w' => v = .bool true ∧ Gat S T LT OT lo p rv bs r one w0 w' w'.heap.size (l ++ [x]) s3) (by omega) (by omega) hb1 (by omega) ht (by rw [hS]; exact hinf) (by omega) hs1 ha (fun i hi => by have := hF i hi; omega) (by cases v <;> first | rfl | cases hv) (fun w' g' => ⟨rfl, g'⟩)
      obtain ⟨lv, hlv, v1, wa, hra, v2, wb, hrb, wc, hrc, hlp, hv, g8⟩ := hpush
      refine ⟨lv, hlv, v1, wa, hra, v2, wb, hrb, wc, hrc, hlp, ?_⟩
      exact gdT (by simp [isB, he]) rfl (pick_f (by simp [he]) (if_f rfl (addu64 (by omega) ⟨m, by omega, j + 1, l ++ [x], s3, _, by omega, rfl, by simp [hl], g8, hd2 he⟩)))
    · refine gdF (by simp [isB, he]) (gdF (by simp [isB, he]) (gF (by simp [isB, he]) (gdF (by simp [isB, he]) (pick_t (by simp [he]) (if_t rfl ?_)))))
      rw [hd1 he]
      exact ⟨_, g3⟩
  · have : m = 0 := by omega
    subst this
    rw [decL, List.append_nil] at hd
    rw [hd]
    exact ⟨_, g2⟩

theorem th_agg {z : Value} {bytes n : Nat} (hS : S.size = n) (h0 : 0 < n) (hn1 : n ≤ 1000) (hb1 : bytes ≤ 1000) (ht : Try.prog.underlying LT = some (.slice T)) (hinf : (Try.prog.info? T).map (fun i => (i.zero, i.size, i.bytes)) = some (some z, n, bytes)) (hz : z.cells.size = n) (hs1 : sizeT Try.prog LT = some 1)
    (hzt : (zeroT Try.prog T).map (fun z => z.cells.toList.length) = some n) (hst : sizeT Try.prog T = some n)
    (ho : OneC true S C p one) (g : Gat S T LT OT lo p rv bs r one w0 w (lo + 5) [] s)
    (hy : ∀ a w k, w.heap[lo + 4]? = some (LO r .ready none) → YAgg Try.prog r (.pointer (some ⟨lo, 0, none⟩)) (lo + 4) T LT n a w k → CallV Try.prog (yv (lo + 4)) #[a] w k) :
    ThAgg Try.prog T n (yv (lo + 4)) (.pointer (some ⟨lo + 1, 0, none⟩)) (.pointer (some ⟨lo + 2, 0, none⟩)) w fun _ w' => Gathered S C T LT OT lo p rv bs r one w0 s w' := by
  unfold ThAgg
  refine ldC_bk g.bx1 rfl ((upto_c g.rd (most := 1024) (bad := 3)).use ?_)
  rintro _ w1 ⟨rfl, hr1, hf1⟩
  have g1 := g.step hf1 hr1
  have hn := decN_le bs s 3
  have hA : decA C bs s = decL C bs (decN 1024 3 bs s).1 (decN 1024 3 bs s).2 := rfl
  unfold Gathered
  rw [hA]
  generalize (decN 1024 3 bs s).1 = N at *
  generalize (decN 1024 3 bs s).2 = s1 at *
  refine ⟨fun m i w' => ∃ (j : Nat) (l : List α) (s' : PS) (hi : Nat), j + m = N ∧ i = .int .u64 j ∧ l.length = j ∧ Gat S T LT OT lo p rv bs r one w0 w' hi l s' ∧ decL C bs N s1 = (l ++ (decL C bs m s').1, (decL C bs m s').2), N, ⟨0, [], s1, lo + 5, by omega, rfl, rfl, g1, by simp⟩, ?_⟩
  rintro m i w2 ⟨j, l, s2, hi2, hj, rfl, hl, g2, hd⟩
  refine lss (if_p (fun hlt => ?_) (fun hge => ?_))
  · obtain ⟨m, rfl⟩ : ∃ m', m = m' + 1 := ⟨m - 1, by omega⟩
    obtain ⟨hd1, hd2⟩ := decL_more hd
    refine ldC_bk g2.bx2 rfl ((ho w2 rv bs s2 g2.rd).mono ?_)
    rintro _ w3 ⟨cs, F, rfl, ha, hF, hr3, hf3⟩
    have g3 := g2.step hf3 hr3
    generalize (C.dec bs s2).1 = x at *
    generalize (C.dec bs s2).2 = s3 at *
    have hcl : cs.length = n := by rw [S.len ha, hS]
    rw [asV_agg]
    refine alloc_n hzt ?_
    intro b w4 z4 hz4 hb4 hB4 hf4 hsz4
    refine store_all hB4 hst hz4 hcl h0 (S.one ha) ?_
    intro w5 hB5 hf5 hsz5
    have hf35 : Fr [] w3 w5 := hf4.trans hf5 (fun i hi => by simp at hi; omega)
    have g5 := g3.fresh hf35
    have ha5 := S.fr ha hf35 (fun i _ => by simp)
    refine ldC_bk g5.bx1 rfl (nilC (fad (ldC_bk g5.rd.blk rfl (neq ?_))))
    have ecs : ((cs.drop 0).take n) = cs := by rw [List.drop_zero]; exact List.take_of_length_le (by omega)
    by_cases he : s3.err = 0
    · refine gdT (by simp [isB, he]) rfl (gdT (by simp [isB, he]) (ldA_bk hB5 (by omega) rfl) (gT (by simp [isB, he]) (hy _ _ _ g5.lp ?_)))
      rw [ecs]
      have hi2w : hi2 ≤ w2.heap.size := g2.hle
      have hlow := heap_lt g2.lp
      refine alloc_n hzt ?_
      intro b' w6 z6 hz6 hb6 hB6 hf6 hsz6
      refine store_all hB6 hst hz6 hcl h0 (S.one ha) ?_
      intro w7 hB7 hf7 hsz7
      have hf57 : Fr [] w5 w7 := hf6.trans hf7 (fun i hi => by simp at hi; omega)
      have g7 := g5.fresh hf57
      have ha7 := S.fr ha5 hf57 (fun i _ => by simp)
      refine ⟨g7.lp, ?_⟩
      have hpush := g7.push (a := x) (cs := cs) (F := F) (u := .agg cs.toArray) (k := fun v w' => v = .bool true ∧ Gat S T LT OT lo p rv bs r one w0 w' w'.heap.size (l ++ [x]) s3) (by omega) (by omega) hb1 (by omega) ht (by rw [hS]; exact hinf) (by omega) hs1 ha7 (fun i hi => by have := hF i hi; omega) (by simp [Value.cells]) (fun w' g' => ⟨rfl, g'⟩)
      obtain ⟨lv, hlv, hrest⟩ := hpush
      refine ⟨lv, hlv, ?_⟩
      have hbne : lo + 4 ≠ b' := by have := heap_lt g5.lp; omega
      refine ldA_bk (hB7.setO (c := lo + 4) _ hbne) (by omega) ?_
      rw [ecs]
      obtain ⟨v1, wa, hra, v2, wb, hrb, wc, hrc, hlp, hv, g8⟩ := hrest
      refine ⟨v1, wa, hra, v2, wb, hrb, wc, hrc, hlp, ?_⟩
      exact gdT (by simp [isB, he]) rfl (pick_f (by simp [he]) (if_f rfl (addu64 (by omega) ⟨m, by omega, j + 1, l ++ [x], s3, _, by omega, rfl, by simp [hl], g8, hd2 he⟩)))
    · refine gdF (by simp [isB, he]) (gdF (by simp [isB, he]) (gF (by simp [isB, he]) (gdF (by simp [isB, he]) (pick_t (by simp [he]) (if_t rfl ?_)))))
      rw [hd1 he]
      exact ⟨_, g5⟩
  · have : m = 0 := by omega
    subst this
    rw [decL, List.append_nil] at hd
    rw [hd]
    exact ⟨_, g2⟩
end
end Go.Proofs.Ytachignmofpngaa
