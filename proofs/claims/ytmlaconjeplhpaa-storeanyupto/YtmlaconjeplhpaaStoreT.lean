/- The law StoreNil, for bytes that stand in memory. -/
import Derived.Test.YtmlaconjeplhpaaStoreS
set_option linter.unusedVariables false
set_option linter.unusedSimpArgs false
set_option maxRecDepth 20000
namespace Go.Proofs.Ytmlaconjeplhpaa
open Go Go.Vc

theorem own_set {w : World} {T : TypeId} {v u : Value} {n j : Nat} {t : TypeId} {xs : List Value} {κ κ2 : IntKind} {z : Int} {k : Value → World → Prop} (h : Own w T 1 v n xs) (hj : j < n) (hz : xs[j]? = some (.int κ2 z)) (hs : sizeT Try.prog t = some 1) (hu : u.oneCell' = true)
    (hk : ∀ w', Own w' T 1 v n (xs.set j u) → Fr (fp v) w w' → (∀ a s, w.cell? a = some s → (∀ κ z, s ≠ .int κ z) → w'.cell? a = some s) → k undef w') : IAdS 1 v (.int κ j) fun a => DoU Try.prog (Instr.storeAt t a u) w k := by
  obtain ⟨hl, h0 | ⟨g, cap, cur, rfl, hb, hg, hn, hm, hcs, htk⟩⟩ := h
  · omega
  refine ixRow hj ?_
  rw [Nat.mul_one]
  have hB : Bk w g T cur.toList := by unfold Bk; rw [Array.toArray_toList]; exact hg
  have hcz : cur.toList[j]? = some (.int κ2 z) := by rw [← htk, List.getElem?_take, if_pos (by omega)] at hz; exact hz
  refine store' hB hs (by rw [Array.length_toList]; omega) hu ?_
  intro w' hB' hF' _
  refine hk w' ⟨by rw [List.length_set]; exact hl, .inr ⟨g, cap, (cur.toList.set j u).toArray, rfl, hb, hB', hn, hm, by simp [hcs], ?_⟩⟩ (hF'.mono (fun i hi => .inl (by simpa [fp_some] using hi))) ?_
  · rw [← htk]
    simp only [List.toList_toArray]
    rw [List.take_set]
  · intro a s hs' hne
    have hlt := World.block_lt_of_cell? w _ hs'
    by_cases e : a.block = g
    · unfold World.cell? at hs' ⊢
      rw [e] at hs' ⊢
      rw [show w'.heap[g]? = _ from hB']
      rw [hg] at hs'
      simp only at hs' ⊢
      split at hs'
      · cases hs'
      · rename_i hsp
        rw [if_neg hsp]
        by_cases ej : a.off = j
        · rw [ej, ← Array.getElem?_toList, hcz] at hs'
          exact absurd (Option.some.inj hs').symm (hne κ2 z)
        · rw [← Array.getElem?_toList] at hs'
          simp only [List.getElem?_toArray]
          rw [List.getElem?_set_ne (by omega)]
          exact hs'
    · rw [← hs']
      exact World.cell?_of_block (hF'.keep _ hlt (by simpa using e))
theorem set_ints {l : List Value} {j : Nat} {x : Int} (h : ∀ u ∈ l, ∃ z, u = Value.int .u8 z) : ∀ u ∈ l.set j (.int .u8 x), ∃ z, u = Value.int .u8 z := by
  intro u hu
  rcases List.mem_or_eq_of_mem_set hu with h' | h'
  · exact h u h'
  · exact ⟨x, h'⟩
theorem bytes_ints (p : List Nat) : ∀ u ∈ bytes p, ∃ z, u = Value.int .u8 z := by
  intro u hu
  obtain ⟨n, _, rfl⟩ := List.mem_map.1 hu
  exact ⟨n, rfl⟩
/-- The loop over a row's bytes. -/
theorem open_nil {w : World} : CallF Try.prog 18 #[.pointer none] w fun r w' => r = .tuple #[.pointer none, .agg #[.bool false, .slice none 0 0, .slice none 0 0], .int .i64 17] ∧ Fr [] w w' := by
  refine C_store_Open_link ?_
  unfold C_store_Open
  refine alloc_n (n := 3) (by kernel_rfl) ?_
  intro b w1 l hl hb hB hF _
  refine ptr_eql und26 (if_t rfl ?_)
  refine ⟨[.bool false, .slice none 0 0, .slice none 0 0], by kernel_rfl, by kernel_rfl, ?_⟩
  refine store_all (n := 3) (vs := [.bool false, .slice none 0 0, .slice none 0 0]) hB (by kernel_rfl) hl rfl (by omega) (by simp [Value.oneCell']) ?_
  intro w2 hB2 hF2 _
  exact ldA_bk hB2 (by simp) ⟨rfl, hF.trans hF2 (fun i hi => .inr (by simp at hi; omega))⟩
theorem nil_append {w : World} {x : Value} : CallF Try.prog 19 #[.pointer none, x] w fun r w' => r = .int .i64 17 ∧ w' = w := by
  refine C_store_Store_Append_link ?_
  unfold C_store_Store_Append
  exact ptr_eql und31 (if_t rfl ⟨rfl, rfl⟩)
theorem nil_check {w : World} {x : Value} : CallF Try.prog 20 #[.pointer none, x] w fun r w' => r = .int .i64 17 ∧ w' = w := by
  refine C_store_Store_Checkpoint_link ?_
  unfold C_store_Store_Checkpoint
  exact ptr_eql und31 (if_t rfl ⟨rfl, rfl⟩)
theorem nil_sync {w : World} : CallF Try.prog 21 #[.pointer none] w fun r w' => r = .int .i64 17 ∧ w' = w := by
  refine C_store_Store_Sync_link ?_
  unfold C_store_Store_Sync
  exact ptr_eql und31 (if_t rfl ⟨rfl, rfl⟩)
theorem nil_len {w : World} : CallF Try.prog 22 #[.pointer none] w fun r w' => r = .int .i64 0 ∧ w' = w := by
  refine C_store_Store_Len_link ?_
  unfold C_store_Store_Len
  exact ptr_eql und31 (if_t rfl ⟨rfl, rfl⟩)
theorem nil_safe {w : World} : CallF Try.prog 23 #[.pointer none] w fun r w' => r = .int .i64 0 ∧ w' = w := by
  refine C_store_Store_Safe_link ?_
  unfold C_store_Store_Safe
  exact ptr_eql und31 (if_t rfl ⟨rfl, rfl⟩)
end Go.Proofs.Ytmlaconjeplhpaa
