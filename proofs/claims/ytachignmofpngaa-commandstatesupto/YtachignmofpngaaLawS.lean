/- The contract of CommandStates. -/
import Derived.Test.YtachignmofpngaaRefV2
set_option linter.unusedVariables false
set_option linter.unusedSimpArgs false
set_option maxRecDepth 20000
set_option synthInstance.maxSize 100000
set_option synthInstance.maxHeartbeats 400000
namespace Go.Proofs.Ytachignmofpngaa
open Go Go.Vc

theorem states_c {w : World} {cs : List Value} {a : DState} {F : List Nat} (hr : sState.rd w cs a F) (hb : 10 * (cState.enc a).length ≤ 99999990000)
    (hbT : ∀ x ∈ a.2.2.2.1, x.2.1.length ≤ 1000000000) (hbL : ∀ x ∈ a.2.2.2.2.1, x.2.1.length ≤ 1000000000) (hlen : a.2.1.length ≤ 100000000 ∧ a.2.2.1.length ≤ 100000000 ∧ a.2.2.2.1.length ≤ 100000000 ∧ a.2.2.2.2.1.length ≤ 100000000 ∧ a.2.2.2.2.2.length ≤ 100000000) :
    CallF Try.prog 8 #[.agg cs.toArray] w fun r w' => r = .bool true ∧ Fr [] w w' := by
  refine C_furlonglaw10_CommandStates_link ?_
  unfold C_furlonglaw10_CommandStates
  have hcl : cs.length = 8 := sState.len hr
  have h1 := sState.one hr
  refine box' (l := cs) (by simp [Value.cells]) ?_
  intro b1 w1 hb1 hB1 hF1 hs1
  refine (awake_c w1).use ?_
  rintro _ w2 ⟨rfl, hF2⟩
  have hF12 := hF1.t hF2
  have hB2 := hB1.fr hF2 (by simp)
  have ec : ∀ cs : List Value, cs.length = 8 → (cs.drop 0).take 8 = cs := fun cs h => by rw [List.drop_zero]; exact List.take_of_length_le (by omega)
  refine notB (if_f rfl ?_)
  refine ldA_bk hB2 (by omega) ?_
  rw [ec cs hcl]
  have hr2 := sState.fr hr hF12 (fun i _ => by simp)
  refine (twinState_c hr2 hbT hbL hlen).use ?_
  rintro _ w3 ⟨cs3, F3, rfl, hr3, hn3, hF3⟩
  have hcl3 : cs3.length = 8 := sState.len hr3
  refine alloc_n (n := 8) (by kernel_rfl) ?_
  intro b4 w4 l hl hb4 hB4 hF4 hs4
  refine store_all hB4 (by kernel_rfl) hl hcl3 (by omega) (sState.one hr3) ?_
  intro w5 hB5 hF5 hs5
  refine ldA_bk hB5 (by omega) ?_
  rw [ec cs3 hcl3]
  have hF35 : Fr [] w3 w5 := hF4.trans hF5 (fun i hi => .inr (by simp at hi; omega))
  have hr5 := sState.fr hr3 hF35 (fun i _ => by simp)
  refine (encodeState_c hr5 hb).use ?_
  rintro _ w6 ⟨v6, rfl, hF6, hn6, ho6⟩
  refine ext0 (ext1 ?_)
  have hF26 := (hF3.t hF35).t hF6
  refine ldA_bk (hB2.fr hF26 (by simp)) (by omega) ?_
  rw [ec cs hcl]
  refine (rstate_c (sState.fr hr2 hF26 (fun i _ => by simp)) hb hbT).use ?_
  rintro _ w7 ⟨v7, rfl, hF7, hn7, ho7⟩
  refine ext0 (ext1 ?_)
  have ho67 := ho6.fr hF7 (fun i _ => by simp)
  generalize (if longS a = true then (3 : Int) else 0) = er at *
  have hbs : ∀ b ∈ (if er = 0 then cState.enc a else []), b < 256 := by
    split
    · exact cState.bytes a
    · simp
  have hsz : (if er = 0 then (cState.enc a).length else 0) = (if er = 0 then cState.enc a else []).length := by split <;> rfl
  rw [hsz] at ho67 ho7
  refine (bytes_c ho67.sl hbs ho7.sl hbs).use ?_
  rintro _ w8 ⟨rfl, rfl⟩
  rw [decide_eq_true rfl]
  refine gdT rfl rfl (gdT rfl rfl (gdT rfl (eql rfl) (pick_t rfl ?_)))
  rw [decide_eq_true rfl]
  have hF57 := hF6.t hF7
  have hF27 := hF26.t hF7
  refine gdT rfl (ldA_bk (hB5.fr hF57 (by simp)) (by omega) rfl) (gdT rfl (ldA_bk (hB2.fr hF27 (by simp)) (by omega) rfl) (gT rfl ?_))
  rw [ec cs hcl, ec cs3 hcl3]
  obtain ⟨l1, l2, l3, l4, l5⟩ := hlen
  refine (sameState_c (sState.fr hr5 hF57 (fun i _ => by simp)) (sState.fr hr2 hF27 (fun i _ => by simp)) (fun x hx => by have := hbT x hx; omega) (fun x hx => by have := hbL x hx; omega) ⟨by omega, by omega, by omega, by omega, by omega⟩).use ?_
  rintro _ w9 ⟨rfl, hF9⟩
  rw [decide_eq_true rfl]
  exact pick_t rfl ⟨rfl, (hF12.t hF27).t hF9⟩
end Go.Proofs.Ytachignmofpngaa
