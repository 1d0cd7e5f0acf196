/- The laws StoreHolds and StoreStale, for arguments that stand in memory. -/
import Derived.Test.YtmlaconjeplhpaaStoreP
set_option linter.unusedVariables false
set_option linter.unusedSimpArgs false
set_option maxRecDepth 20000
namespace Go.Proofs.Ytmlaconjeplhpaa
open Go Go.Vc

abbrev aBytes : Shape (List Nat) := sByte.list (by decide)
abbrev aOp : Shape (Int × Int × List Nat) := sInt.seq (sInt.seq aBytes)
abbrev aOps : Shape (List (Int × Int × List Nat)) := aOp.list (by decide)
abbrev aLists : Shape (List (List Nat)) := aBytes.list (by decide)
abbrev aInts : Shape (List Int) := sInt.list (by decide)
theorem of_aBytes {w : World} {cs : List Value} {p F : List Nat} (h : aBytes.rd w cs p F) : ∃ x F', cs = [x] ∧ sSl.rd w [x] p F' ∧ ∀ c ∈ p, c < 256 := by
  obtain ⟨v, cells, G, rfl, hcap, hsl, hrows, _⟩ := h
  obtain ⟨rfl, rfl, hb⟩ := rows_bytes.1 hrows
  exact ⟨v, _, rfl, ⟨v, rfl, hcap, hsl, rfl⟩, hb⟩
theorem of_aOp {w : World} {cs : List Value} {o : Int × Int × List Nat} {F : List Nat} (h : aOp.rd w cs o F) : ∃ x F', cs = [.int .i64 o.1, .int .i64 o.2.1, x] ∧ sSl.rd w [x] o.2.2 F' ∧ ∀ c ∈ o.2.2, c < 256 := by
  obtain ⟨_, _, _, _, rfl, rfl, ⟨rfl, rfl, _⟩, _, _, _, _, rfl, rfl, ⟨rfl, rfl, _⟩, h3⟩ := h
  obtain ⟨x, F', rfl, h4, h5⟩ := of_aBytes h3
  exact ⟨x, F', rfl, h4, h5⟩
/-- The desk of a law, when it has begun. -/
theorem Ks.frn {w0 w : World} {pk n bnd : Nat} (h : Ks w0 w pk n bnd) : Fr [] w0 w := by
  obtain ⟨ps, pd, bb, lv, tv, sv, lsv, D, gen, life, at', safe, tail, whole, snap, list, F1, F2, h⟩ := h
  exact h.fr
theorem holds_c {w : World} {n : Int} {x : Value} {ops : List (Int × Int × List Nat)} {F : List Nat} (hx : aOps.rd w [x] ops F) (hl : ∀ o ∈ ops, o.2.2.length ≤ 1000000000) :
    CallF Try.prog 6 #[.int .i64 n, x] w fun r w' => r = .bool true ∧ Fr [] w w' := by
  refine C_furlonglaw15_StoreHolds_link ?_
  unfold C_furlonglaw15_StoreHolds
  refine awake_c.use ?_
  rintro _ w1 ⟨rfl, hF1⟩
  refine notB (if_f rfl ?_)
  refine blocks_c.use ?_
  rintro _ w1' ⟨⟨b, hb1, hb2, rfl⟩, hw1⟩
  rw [hw1]
  refine (begin_c (n := b) (by omega)).use ?_
  rintro r w2 ⟨cells, rfl, hcl, hco, hF2, hks⟩
  refine ext0 (ext1 ?_)
  refine alloc_n (n := 8) (by kernel_rfl) ?_
  intro pk w3 l3 hl3 hpk hB3 hF3 _
  refine store_all (n := 8) (vs := cells) hB3 (by kernel_rfl) hl3 hcl (by omega) hco ?_
  intro w4 hB4 hF4 _
  have hk4 : Ks w1 w4 pk b 1 := hks pk w4 (hF3.trans hF4 (fun i hi => .inr (by simp at hi; omega))) (by omega) hB4
  refine notB (if_f rfl ?_)
  obtain ⟨oc, Go', hcap, hsl, hrows, _⟩ := list_open (aOps.fr hx hF1 (fun i _ => by simp))
  refine hsl.lenV ?_
  refine ⟨fun _ _ w' => Ks w1 w' pk b 155, ?_, ?_⟩
  · intro _ _ w5 h5
    refine (crash_c 0 h5 (by omega)).use ?_
    rintro _ w6 ⟨rfl, h6⟩
    refine gT (by simp [isB]) ((crash_c 9 h6 (by omega)).use ?_)
    rintro _ w7 ⟨rfl, h7⟩
    exact pick_t rfl ⟨rfl, hF1.t h7.frn⟩
  refine ⟨fun m _ t w' => ∃ j : Nat, j + m = ops.length ∧ t = .int .i64 j ∧ j ≤ 150 ∧ Ks w1 w' pk b (1 + j), ops.length, ⟨0, by omega, rfl, by omega, hk4⟩, ?_⟩
  rintro m _ _ w5 ⟨j, hj, rfl, hj150, h5⟩
  refine lss (if_p (fun hlt => ?_) (fun hge => h5.up (by omega) (by omega)))
  have hjl : j < ops.length := by omega
  refine ixN (hsl.fr h5.frn (fun i _ => by simp)) hjl ?_
  obtain ⟨Gj, hrd, _⟩ := rows_get aOp hrows j hjl
  obtain ⟨pv, Fp, hcs, hpv, hpb⟩ := of_aOp hrd
  have h3 : aOp.size = 3 := rfl
  rw [h3] at hcs
  have hcs' : List.take 3 (List.drop (j * 3) oc) = [.int .i64 ops[j].1, .int .i64 ops[j].2.1, pv] := hcs
  rw [hcs']
  refine alloc_n (n := 3) (by kernel_rfl) ?_
  intro bo w6 l6 hl6 hbo hB6 hF6 _
  refine store_all (n := 3) (vs := [.int .i64 ops[j].1, .int .i64 ops[j].2.1, pv]) hB6 (by kernel_rfl) hl6 rfl (by omega) (fun v hv => by simp at hv; rcases hv with rfl | rfl | rfl; rfl; rfl; exact sSl.one hpv _ (by simp)) ?_
  intro w7 hB7 hF7 _
  have h7 := h5.fresh (hF6.trans hF7 (fun i hi => .inr (by simp at hi; omega)))
  obtain ⟨hps, hpx⟩ := sSl_sl hpv
  have hpl := hl _ (List.getElem_mem hjl)
  have rest : j < 150 → LdA (At w7) 3 (.pointer (some ⟨bo, 0, none⟩)) (fun t34_44 =>
       CallF Try.prog 31 #[ptr pk, t34_44] w7 fun t35_45 w_46 =>
       Un Try.prog (At w_46) .not t35_45 fun t36_47 =>
       If t36_47 (
        (Value.bool false = .bool true ∧ Fr [] w w_46)) (
        Bin Try.prog (At w_46) .add 3 false true (.int .i64 j) (.int .i64 1) fun t37_48 =>
        ∃ m_49, m_49 < m ∧
        ∃ j : Nat, j + m_49 = ops.length ∧ t37_48 = .int .i64 j ∧ j ≤ 150 ∧ Ks w1 w_46 pk b (1 + j))) := by
    intro hj1
    refine ldA_bk hB7 (by simp) ?_
    refine (do_c h7 (by omega) hpv hpb hpl).use ?_
    rintro _ w8 ⟨rfl, h8⟩
    refine notB (if_f rfl (add64 (by omega) ⟨m - 1, by omega, j + 1, by omega, by congr 1, by omega, h8⟩))
  refine geq ?_
  by_cases hbig : 150 ≤ j
  · refine gdF (by simp [isB]; omega) (gdF (by simp [isB]; omega) (gdF (by simp [isB]; omega) (gdF (by simp [isB]; omega) (pick_t (by simp; omega) (if_t rfl (h7.up (by omega) (by omega)))))))
  · refine gdT (by simp [isB]; omega) (fad rfl) (gdT (by simp [isB]; omega) (ldC_bk hB7 rfl rfl) (gdT (by simp [isB]; omega) (hps.lenV rfl) (gdT (by simp [isB]; omega) (gtr rfl) (pick_f (by simp; omega) (if_p (fun _ => h7.up (by omega) (by omega)) (fun _ => rest (by omega)))))))
end Go.Proofs.Ytmlaconjeplhpaa
