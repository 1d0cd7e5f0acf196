/- Contracts of the reference's functions that write: furlongref03.Num, Whole, furlongref10.put, count, numbers, queue, node, task, Entry. -/
import Derived.Test.YtachignmofpngaaCmdR7
import Derived.Test.YtachignmofpngaaVcEq
set_option linter.unusedVariables false
set_option linter.unusedSimpArgs false
set_option maxRecDepth 20000
namespace Go.Proofs.Ytachignmofpngaa
open Go Go.Vc

theorem bk_own {w : World} {b n : Nat} {T : TypeId} {l : List Value} {size : Nat} (h : Bk w b T l) (hl : l.length = n * size) (hn : n ≤ 1000000) : Own w T size (.slice (some ⟨b, 0, none⟩) n n) n l :=
  ⟨hl, .inr ⟨b, n, l.toArray, rfl, Nat.zero_le _, h, Nat.le_refl _, by unfold maxLen; omega, by simp [hl], by simp [← hl]⟩⟩
/-- A literal slice of whole numbers or bytes, as a row of one's own. -/
theorem lit_new {P : Program} {w : World} {k : Value → World → Prop} {t e : TypeId} {z : Value} {bytes n : Nat} {vs : List Value} {parts : Array (Nat × Value)} (ht : P.underlying t = some (.slice e)) (hi : (P.info? e).map (fun i => (i.zero, i.size, i.bytes)) = some (some z, 1, bytes)) (hz : z.cells.toList.length = 1)
    (hp : parts = ((vs.zipIdx 0).map fun x => (x.2, x.1)).toArray) (hn : vs.length = n) (hle : n ≤ 1000000) (hv : ∀ v ∈ vs, v.cells = #[v])
    (h : ∀ v w', New w w' e 1 v n vs → k v w') : Do P (Instr.buildSlice t n parts) w k := by
  refine lit' ht hi hz hp hn (by omega) hv ?_
  intro b w' hb hB hF hsz
  exact h _ w' ⟨bk_own hB (by omega) hle, hF, fun i hi => by simp [fp_some] at hi; omega⟩

theorem num_c {x : Nat} (hx : x ≤ 18446744073709551615) (w : World) : CallF Try.prog 38 #[.int .u64 x] w fun r w' => New w w' 5 1 r (layN x).length (bytes (layN x)) := by
  refine C_furlongref03_Num_link ?_
  unfold C_furlongref03_Num
  refine lss (if_p (fun hlt => ?_) (fun hge => ?_))
  · refine conv_u8_in (by omega) ?_
    have e : layN x = [x] := by unfold layN; rw [if_pos (by omega)]
    rw [e]
    refine lit_new (vs := [.int .u8 x]) Try.underlying37 infoB rfl rfl rfl (by omega) (by simp [Value.cells]) ?_
    intro v w' hN
    exact hN
  · have e : layN x = (191 + kOf x) :: digs (kOf x) (x - shelfN (kOf x)) := by unfold layN; rw [if_neg (by omega)]
    rw [e]
    refine ⟨fun m b s i w' => w' = w ∧ ∃ j : Nat, 1 ≤ j ∧ j + m = 8 ∧ i = .int .i64 j ∧ b = .int .u64 (shelfN j : Nat) ∧ s = .int .u64 (256 ^ j % 18446744073709551616 : Nat) ∧ (j = 1 ∨ shelfN j ≤ x), 7, ⟨rfl, 1, by omega, by omega, rfl, rfl, rfl, .inl rfl⟩, ?_⟩
    rintro m b s i w' ⟨rfl, j, hj1, hj, rfl, rfl, rfl, hs⟩
    have hsl := shelfN_le j (by omega)
    have hshx : shelfN j ≤ x := by
      rcases hs with rfl | h
      · rw [shelf_nums.1]; omega
      · exact h
    refine lss ?_
    have stop : IsK j x → (Bin Try.prog (At w') .add 3 true false (.int .i64 191) (.int .i64 j) fun t30_23 =>
        ConvI .u8 t30_23 fun t31_24 =>
        Do Try.prog (Instr.buildSlice 37 1 #[(0, t31_24)]) w' fun t32_25 w_26 =>
        Bin Try.prog (At w_26) .sub 3 false true (.int .i64 j) (.int .i64 1) fun t34_27 =>
        ∃ (I_28 : Nat → Value → Value → World → Prop) (m_29 : Nat), I_28 m_29 t32_25 t34_27 w_26 ∧
        ∀ m_30, ∀ out_6_31, ∀ i_7_32, ∀ w_33, I_28 m_30 out_6_31 i_7_32 w_33 →
          Bin Try.prog (At w_33) .geq 3 false true i_7_32 (.int .i64 0) fun t36_34 =>
          If t36_34 (
           Bin Try.prog (At w_33) .sub 75 false false (.int .u64 x) (.int .u64 (shelfN j : Nat)) fun t42_35 =>
           Bin Try.prog (At w_33) .mul 3 true false (.int .i64 8) i_7_32 fun t44_36 =>
           Bin Try.prog (At w_33) .shr 75 false false t42_35 t44_36 fun t45_37 =>
           ConvI .u8 t45_37 fun t46_38 =>
           Do Try.prog (Instr.buildSlice 37 1 #[(0, t46_38)]) w_33 fun t47_39 w_40 =>
           Do Try.prog (Builtin.append_ #[37, 37] 37 #[out_6_31, t47_39]) w_40 fun t48_41 w_42 =>
           Bin Try.prog (At w_42) .sub 3 false true i_7_32 (.int .i64 1) fun t38_43 =>
           ∃ m_44, m_44 < m_30 ∧
           I_28 m_44 t48_41 t38_43 w_42) (
           New w' w_33 5 1 out_6_31 ((191 + kOf x) :: digs (kOf x) (x - shelfN (kOf x))).length (bytes ((191 + kOf x) :: digs (kOf x) (x - shelfN (kOf x)))))) := by
      intro hK
      rw [← isK_eq hK]
      refine add64 (by omega) (conv_u8_in (by omega) ?_)
      refine lit_new (vs := [.int .u8 (191 + (j : Int))]) Try.underlying37 infoB rfl rfl rfl (by omega) (by simp [Value.cells]) ?_
      intro v w1 hN1
      refine sub64 (by omega) ?_
      refine ⟨fun m v i w2 => ∃ q : Nat, q + m = j ∧ i = .int .i64 ((j : Int) - 1 - q) ∧ New w' w2 5 1 v (1 + q) (bytes ((191 + j) :: (digs j (x - shelfN j)).take q)), j, ⟨0, by omega, by congr 1; omega, by simpa [bytes] using hN1⟩, ?_⟩
      rintro m2 v2 i2 w2 ⟨q, hq, rfl, hN⟩
      refine geq (if_p (fun hlt => ?_) (fun hge => ?_))
      · have e2 : (((x : Int) - (shelfN j : Int)) / 2 ^ (8 * (j - 1 - q))) % 256 = (((x - shelfN j) / 256 ^ (j - 1 - q) % 256 : Nat) : Int) := by
          rw [show (x : Int) - (shelfN j : Int) = ((x - shelfN j : Nat) : Int) by omega, Int.pow_mul]
          simp only [Int.natCast_emod, Int.natCast_ediv, Int.natCast_pow]
          rfl
        refine subu64 (by omega) (mul64 (by omega) (shrn (n := 8 * (j - 1 - q)) (by omega) (by simp [IntKind.bits]; omega) (by omega) (conv_u8 ?_)))
        rw [e2]
        refine append1 hN Try.underlying37 infoB rfl rfl rfl (by omega) (by omega) ?_
        intro v6 w6 hN6
        refine sub64 (by omega) ⟨m2 - 1, by omega, q + 1, by omega, by congr 1; omega, ?_⟩
        have e3 : (digs j (x - shelfN j)).take (q + 1) = (digs j (x - shelfN j)).take q ++ [(x - shelfN j) / 256 ^ (j - 1 - q) % 256] := by
          rw [List.take_succ_eq_append_getElem (by simp [digs]; omega)]
          simp [digs]
        rw [e3, ← List.cons_append, bytes_append]
        exact hN6
      · have e4 : (digs j (x - shelfN j)).take q = digs j (x - shelfN j) := List.take_of_length_le (by simp [digs]; omega)
        rw [e4] at hN
        have e5 : 1 + q = ((191 + j) :: digs j (x - shelfN j)).length := by simp [digs]; omega
        rw [e5] at hN
        exact hN
    by_cases h8 : j < 8
    · have hpw : (256 : Nat) ^ j ≤ 72057594037927936 := Nat.pow_le_pow_right (n := 256) (by omega) (show j ≤ 7 by omega)
      have hm : 256 ^ j % 18446744073709551616 = 256 ^ j := Nat.mod_eq_of_lt (by omega)
      have hst := shelf_step hj1
      have hsl2 := shelfN_le (j + 1) (by omega)
      rw [hm]
      have hps : (256 : Nat) ^ (j + 1) = 256 ^ j * 256 := Nat.pow_succ ..
      refine gdT (by simp [isB]; omega) rfl (gdT (by simp [isB]; omega) rfl (gdT (by simp [isB]; omega) (subu64 (by omega) rfl) (gdT (by simp [isB]; omega) rfl (gdT (by simp [isB]; omega) (geq rfl) (pick_t (by simp; omega) ?_)))))
      refine if_p (fun h => ?_) (fun h => ?_)
      · refine addu64 (by omega) (mulw (add64 (by omega) ⟨m - 1, by omega, rfl, j + 1, by omega, by omega, rfl, ?_, ?_, .inr (by omega)⟩))
        · rw [hst]; push_cast; rfl
        · rw [IntKind.wrap_u64, hps]; congr 1
      · exact stop ⟨by omega, by omega, hs, .inr (by omega)⟩
    · refine gdF (by simp [isB]; omega) (gdF (by simp [isB]; omega) (gdF (by simp [isB]; omega) (gdF (by simp [isB]; omega) (gdF (by simp [isB]; omega) (pick_f (by simp; omega) (if_f rfl ?_))))))
      exact stop ⟨by omega, by omega, hs, .inl (by omega)⟩
theorem negu {P : Program} {S : World → Prop} {κ : IntKind} {a : Int} {k : Value → Prop} (h : k (.int κ (κ.wrap (0 - a)))) : Un P S .neg (.int κ a) k := h
theorem whole_c {x : Int} (hx : I64 x) (w : World) : CallF Try.prog 76 #[.int .i64 x] w fun r w' => New w w' 5 1 r (wholeN x).length (bytes (wholeN x)) := by
  have hz := zig_le hx
  unfold I64 at hx
  refine C_furlongref03_Whole_link ?_
  unfold C_furlongref03_Whole
  refine lss (if_p (fun h => ?_) (fun h => ?_))
  · have e : zig x = (2 * (-x - 1) + 1).toNat := by simp [zig, h]
    refine add64 (by omega) (negu ?_)
    rw [Go.IntWalk.i64_in _ (by omega)]
    refine conv_u64 (by omega) (mulu64 (by omega) (addu64 (by omega) ?_))
    have e2 : (0 - (x + 1)) * 2 + 1 = (zig x : Int) := by rw [e]; omega
    rw [e2]
    exact (num_c hz w).use fun r w' h => h
  · have e : zig x = (2 * x).toNat := by simp [zig, h]
    refine conv_u64 (by omega) (mulu64 (by omega) ?_)
    have e2 : x * 2 = (zig x : Int) := by rw [e]; omega
    rw [e2]
    exact (num_c hz w).use fun r w' h => h
end Go.Proofs.Ytachignmofpngaa
