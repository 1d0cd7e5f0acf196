/- The law KeepLasts, for arguments that stand in memory. The law KeepCuts, for arguments that stand in memory. The law KeepNil, for arguments that stand in memory. -/
import Derived.Test.YtmlaconjeplhpaaMJ
set_option linter.unusedVariables false
set_option linter.unusedSimpArgs false
set_option maxRecDepth 20000
namespace Go.Proofs.Ytmlaconjeplhpaa
open Go Go.Vc

/-- The same, but for votes since. -/
def Since (a k : KD) : Prop := k.base = a.base ∧ k.bterm = a.bterm ∧ k.snap = a.snap ∧ k.ents = a.ents ∧ a.term ≤ k.term
theorem lists_get {w : World} {l : List (List Nat)} {cells : List Value} {G : List Nat} (hr : aBytes.rows w l cells G) {j : Nat} (hj : j < l.length) : ∃ x F', cells[j]? = some x ∧ sSl.rd w [x] l[j] F' ∧ ∀ c ∈ l[j], c < 256 := by
  obtain ⟨F, hrd, hF⟩ := rows_get aBytes hr j hj
  obtain ⟨x, F', hcs, h1, h2⟩ := of_aBytes hrd
  refine ⟨x, F', ?_, h1, h2⟩
  have h1z : aBytes.size = 1 := rfl
  rw [h1z, Nat.mul_one] at hcs
  have := congrArg (fun l : List Value => l[0]?) hcs
  simpa [List.getElem?_take, List.getElem?_drop] using this
theorem klasts_c {w : World} {x0 x1 x2 : Value} {list : List (List Nat)} {votes : List Int} {more : List (Int × Int × Int × Int × List Nat)} {keeps : Int} {F0 F1 F2 : List Nat} (hx0 : aLists.rd w [x0] list F0) (hx1 : aInts.rd w [x1] votes F1) (hx2 : kOps.rd w [x2] more F2) :
    CallF Try.prog 8 #[x0, x1, x2, .int .i64 keeps] w fun r w' => r = .bool true ∧ Fr [] w w' := by
  refine C_furlonglaw16_KeepLasts_link ?_
  unfold C_furlonglaw16_KeepLasts
  refine kawake_c.use ?_
  rintro _ w1 ⟨rfl, hFa⟩
  refine notB (if_f rfl ?_)
  obtain ⟨c0, G0, hcap0, hsl0, hrows0, _⟩ := list_open (aLists.fr hx0 hFa (fun i _ => by simp))
  obtain ⟨c1, G1, hcap1, hsl1, hrows1, _⟩ := list_open (aInts.fr hx1 hFa (fun i _ => by simp))
  obtain ⟨c2, G2, hcap2, hsl2, hrows2, _⟩ := list_open (kOps.fr hx2 hFa (fun i _ => by simp))
  obtain ⟨rfl, rfl, hints⟩ := rows_ints.1 hrows1
  refine hsl0.lenV (gtr ?_)
  by_cases d1 : 60 < list.length
  · have e1 : decide ((60 : Int) < (list.length : Int)) = true := by simp; omega
    rw [e1]
    repeat first | refine gdF rfl ?_ | refine pick_t rfl ?_
    exact if_t rfl ⟨rfl, hFa⟩
  have e1 : decide ((60 : Int) < (list.length : Int)) = false := by simp; omega
  rw [e1]
  refine gdT rfl rfl (gdT rfl (hsl2.lenV rfl) (gdT rfl (gtr rfl) (pick_f rfl ?_)))
  by_cases d2 : 40 < more.length
  · have e2 : decide ((40 : Int) < (more.length : Int)) = true := by simp; omega
    rw [e2]
    repeat first | refine gdF rfl ?_ | refine pick_t rfl ?_
    exact if_t rfl ⟨rfl, hFa⟩
  have e2 : decide ((40 : Int) < (more.length : Int)) = false := by simp; omega
  rw [e2]
  refine gdT rfl rfl (gdT rfl (lss rfl) (pick_f rfl (if_p (fun _ => ⟨rfl, hFa⟩) (fun d3 => ?_))))
  obtain ⟨kp, hkp⟩ : ∃ kp : Nat, keeps = kp := ⟨keeps.toNat, by omega⟩
  subst hkp
  refine kbegin_c.use ?_
  rintro r w2 ⟨cells, rfl, hcl, hco, hF2, hks⟩
  refine ext0 (ext1 ?_)
  refine alloc_n (n := 3) (by kernel_rfl) ?_
  intro px w3 l3 hl3 hpx hB3 hF3 _
  refine store_all (n := 3) (vs := cells) hB3 (by kernel_rfl) hl3 hcl (by omega) hco ?_
  intro w4 hB4 hF4 _
  obtain ⟨pd, pk, lsv, FL, h4⟩ : Dk16 w1 w4 px 500000 1 200 [KD.new] := hks px w4 (hF3.trans hF4 (fun i hi => .inr (by simp at hi; omega))) (by omega) hB4
  have hpx1 := h4.new
  refine notB (if_f rfl (hsl0.lenV ?_))
  let I : Nat → Value → Value → Value → World → Prop := fun m _ t i w' => ∃ (j t' : Nat) (L : List KD), j + m = list.length ∧ i = .int .i64 j ∧ t = .int .i64 t' ∧ t' ≤ j ∧ Bk w' px 60 (dCells pd pk lsv) ∧ Kt w1 w' pk pd 500000 (1 + 2 * j) (200 + 3200 * j) L [px] ∧ (lastL L).term = t' ∧ (lastL L).base = 0 ∧ (lastL L).ents.length = j
  refine ⟨I, list.length, ⟨0, 0, [KD.new], by omega, rfl, rfl, by omega, h4.blk, h4.kt.step (Fr.refl _ _) (fun i hi => .inl (by simp at hi; simp [hi])), rfl, rfl, rfl⟩, ?_⟩
  rintro m v8 _ _ w5 ⟨j, t, L, hj, rfl, rfl, htj, hB5, hk5, hterm, hbase, hents⟩
  have hF5 := hk5.frn
  refine lss (if_p (fun hlt => ?_) (fun hge => ?_))
  · have hjl : j < list.length := by omega
    obtain ⟨pv, Fp, hcp, hpv, hpb⟩ := lists_get hrows0 hjl
    obtain ⟨hps, hpo⟩ := sSl_sl hpv
    refine ix1 (hsl0.fr hF5 (fun i _ => by simp)) hjl hcp ?_
    refine hps.lenV (gtr (if_p (fun _ => ⟨rfl, hFa.t hF5⟩) (fun hle => ?_)))
    have hsl1' := hsl1.fr hF5 (fun i _ => by simp)
    have hpl : list[j].length ≤ 3000 := by omega
    -- the put, when the vote is cast
    have put : ∀ (t' : Nat) (L' : List KD) (w6 : World), t' ≤ j + 1 → Bk w6 px 60 (dCells pd pk lsv) → Kt w1 w6 pk pd 500000 (2 + 2 * j) (300 + 3200 * j) L' [px] → (lastL L').term = t' → (lastL L').base = 0 → (lastL L').ents.length = j →
         FAd 1 (ptr px) fun t80_53 =>
         LdC (At w6) t80_53 fun t81_54 =>
         Bin Try.prog (At w6) .add 3 false true (.int .i64 j) (.int .i64 1) fun t83_55 =>
         CallF Try.prog 36 #[t81_54, t83_55, .int .i64 t', pv] w6 fun t86_56 w_57 =>
         Bin Try.prog (At w_57) .neq 27 false true t86_56 (.int .i64 0) fun t87_58 =>
         If t87_58 (
          Value.bool false = .bool true ∧ Fr [] w w_57) (
          Bin Try.prog (At w_57) .add 3 false true (.int .i64 j) (.int .i64 1) fun t88_59 =>
          ∃ m_60, m_60 < m ∧
          I m_60 v8 (.int .i64 t') t88_59 w_57) := by
      intro t' L' w6 ht' hB6 hk6 h1 h2 h3
      refine fad (ldC_bk hB6 rfl (add64 (by omega) ?_))
      refine (kput_c hk6 (by omega) (i := (j : Int) + 1) (t := (t' : Int)) (by omega) (by unfold I64; omega) (hps.fr hk6.frn (fun i _ => by simp)) (fun h0 i hi => .inr (hpo h0 i hi)) hpb).use ?_
      rintro r w7 ⟨hO, ⟨hb, _⟩ | ⟨hb, rfl, hk7⟩⟩
      · exfalso
        unfold badPut at hb
        rw [h2, h3] at hb
        omega
      refine neq (if_f rfl (add64 (by omega) ⟨m - 1, by omega, j + 1, t', _, by omega, by congr 1, rfl, ht', hO.bk hB6 (.inl (by simp)), hk7.up (by omega) (by omega) (by omega) (by omega), ?_, ?_, ?_⟩))
      · rw [lastL_snoc]; exact h1
      · rw [lastL_snoc]; exact h2
      · rw [lastL_snoc]
        show ((lastL L').ents.take _ ++ _).length = j + 1
        rw [h2, show ((j : Int) + 1 - 0 - 1).toNat = j by omega, List.length_append, List.length_take, h3]
        simp
    have main : ∀ c : Bool, (c = true → ∃ hv : j < votes.length, 0 ≤ votes[j] ∧ votes[j] < 1000) →
        ∃ J_49 : Value → Value → World → Prop,
        (∀ t8_50, ∀ term_11_51, ∀ w_52, J_49 t8_50 term_11_51 w_52 → (
         FAd 1 (ptr px) fun t80_53 =>
         LdC (At w_52) t80_53 fun t81_54 =>
         Bin Try.prog (At w_52) .add 3 false true (.int .i64 j) (.int .i64 1) fun t83_55 =>
         CallF Try.prog 36 #[t81_54, t83_55, term_11_51, pv] w_52 fun t86_56 w_57 =>
         Bin Try.prog (At w_57) .neq 27 false true t86_56 (.int .i64 0) fun t87_58 =>
         If t87_58 (
          Value.bool false = .bool true ∧ Fr [] w w_57) (
          Bin Try.prog (At w_57) .add 3 false true (.int .i64 j) (.int .i64 1) fun t88_59 =>
          ∃ m_60, m_60 < m ∧
          I m_60 t8_50 term_11_51 t88_59 w_57))) ∧
        If (.bool c) (
         Bin Try.prog (At w5) .add 3 false true (.int .i64 t) (.int .i64 1) fun t70_61 =>
         ∃ S_62 : World → Prop, S_62 (World.drew w5) ∧
         FAd 1 (ptr px) fun t71_63 =>
         LdC S_62 t71_63 fun t72_64 =>
         IAdS 1 x1 (.int .i64 j) fun t76_65 =>
         LdC S_62 t76_65 fun t77_66 =>
         CallF Try.prog 35 #[t72_64, t70_61, t77_66] (World.drew w5) fun t78_67 w_68 =>
         S_62 w_68 ∧
         Bin Try.prog S_62 .neq 27 false true t78_67 (.int .i64 0) fun t79_69 =>
         If t79_69 (
          Value.bool false = .bool true ∧ Fr [] w w_68) (
          J_49 v8 t70_61 w_68)) (
         J_49 v8 (.int .i64 t) w5) := by
      intro c hc
      refine ⟨fun v t2 w' => v = v8 ∧ ∃ (t' : Nat) (L' : List KD), t2 = .int .i64 t' ∧ t' ≤ j + 1 ∧ Bk w' px 60 (dCells pd pk lsv) ∧ Kt w1 w' pk pd 500000 (2 + 2 * j) (300 + 3200 * j) L' [px] ∧ (lastL L').term = t' ∧ (lastL L').base = 0 ∧ (lastL L').ents.length = j, ?_, if_b (fun hct => ?_) (fun _ => ?_)⟩
      · rintro _ _ w6 ⟨rfl, t', L', rfl, a1, a2, a3, a4, a5, a6⟩
        exact put t' L' w6 a1 a2 a3 a4 a5 a6
      · obtain ⟨hv, hv0, hv1⟩ := hc hct
        refine add64 (by omega) ?_
        have hd := Fr.drew [] w5
        have hk5d := hk5.step hd (Y2 := [px]) (fun i hi => .inl hi)
        have hSl : ∀ {w'}, Fr [] w1 w' → Sl w' 1 x1 votes.length (votes.map (.int .i64)) := fun f => hsl1.fr f (fun i _ => by simp)
        refine ⟨fun w' => Bk w' px 60 (dCells pd pk lsv) ∧ Sl w' 1 x1 votes.length (votes.map (.int .i64)), ⟨hB5.drew, hSl (hF5.t hd)⟩, ?_⟩
        refine fad (ldC_S (fun w' h => h.1) rfl (ix1S (u := .int .i64 votes[j]) (fun w' h => h.2) (hSl hF5) hv (by rw [List.getElem?_map, List.getElem?_eq_getElem hv]; rfl) ?_))
        refine (kvote_c hk5d (by omega) (by omega) (t := (t : Int) + 1) (v := votes[j]) (by unfold I64; omega) (by unfold I64; omega)).use ?_
        rintro r w6 ⟨hO, ⟨hb, _⟩ | ⟨hb, rfl, hk6⟩⟩
        · exfalso
          unfold badVote at hb
          omega
        refine ⟨⟨hO.bk hB5.drew (.inl (by simp)), hSl hk6.frn⟩, neq (if_f rfl ⟨rfl, t + 1, _, by congr 1, by omega, hO.bk hB5.drew (.inl (by simp)), hk6.up (by omega) (by omega) (by omega) (by omega), ?_, ?_, ?_⟩)⟩
        · rw [lastL_snoc]; exact (Int.natCast_add t 1).symm
        · rw [lastL_snoc]; exact hbase
        · rw [lastL_snoc]; exact hents
      · exact ⟨rfl, t, L, rfl, by omega, hB5, hk5.up (by omega) (by omega) (by omega) (by omega), hterm, hbase, hents⟩
    refine hsl1.lenV (lss ?_)
    by_cases hv : j < votes.length
    · have e3 : decide ((j : Int) < (votes.length : Int)) = true := by simp; omega
      rw [e3]
      obtain ⟨a, y1, y2⟩ := ix1_ex (κ := .i64) hsl1' hv (u := .int .i64 votes[j]) (by rw [List.getElem?_map, List.getElem?_eq_getElem hv]; rfl)
      refine gdT rfl rfl (gdT rfl rfl (gdT rfl y1 (gdT rfl y2 (gdT rfl (geq rfl) (pick_t rfl ?_)))))
      by_cases hv0 : 0 ≤ votes[j]
      · have e4 : decide ((0 : Int) ≤ votes[j]) = true := by simpa using hv0
        rw [e4]
        refine gdT rfl rfl (gdT rfl rfl (gdT rfl y1 (gdT rfl y2 (gdT rfl (lss rfl) (pick_t rfl (main _ (fun h => ⟨hv, hv0, of_decide_eq_true h⟩)))))))
      · have e4 : decide ((0 : Int) ≤ votes[j]) = false := by simpa using hv0
        rw [e4]
        repeat first | refine gdF rfl ?_ | refine pick_f rfl ?_
        exact main false (fun h => by cases h)
    · have e3 : decide ((j : Int) < (votes.length : Int)) = false := by simp; omega
      rw [e3]
      repeat first | refine gdF rfl ?_ | refine pick_f rfl ?_
      exact main false (fun h => by cases h)
  -- all is put: what it is now
  obtain ⟨ps, sv, ev, Fa, Fb, hkp5⟩ := hk5.kp
  have hwf := hk5.wfl
  obtain ⟨was, hwas⟩ : ∃ was, lastL L = was := ⟨_, rfl⟩
  rw [hwas] at hkp5 hwf
  refine fad (ldC_bk hB5 rfl ((now_c hkp5 hwf.1).use ?_))
  rintro _ w6 ⟨hF6, cw, Fw, rfl, hm6, hmn⟩
  refine ext0 (ext1 ?_)
  refine alloc_n (n := 6) (by kernel_rfl) ?_
  intro bw w7 l7 hl7 hbw hB7 hF7 hs7
  refine store_all (n := 6) (vs := cw) hB7 szM hl7 (sKd.len hm6) (by omega) (sKd.one hm6) ?_
  intro w8 hB8 hF8 hs8
  have f68 : Fr [] w6 w8 := hF7.trans hF8 (fun i hi => .inr (by simp at hi; omega))
  have f58 := hF6.t f68
  have hm8 := sKd.fr hm6 f68 (fun i _ => by simp)
  have hmlt := sKd.lt hm6
  have z56 := hF6.size
  have z68 := f68.size
  have hB58 := hB5.fr f58 (by simp)
  have hk8 := hk5.step f58 (Y2 := px :: bw :: Fw) (fun i hi => by
    simp only [List.mem_cons] at hi
    rcases hi with rfl | rfl | hi
    · exact .inl (by simp)
    · exact .inr (by omega)
    · exact .inr ⟨hmn i hi, by have := hmlt i hi; omega⟩)
  refine notB (gdT rfl (fad rfl) (gdT rfl (ldC_bk hB58 rfl rfl) (gT rfl ((ksync_c hk8).use ?_))))
  rintro _ w9 ⟨hO9, rfl, hk9⟩
  rw [hwas] at hk9
  refine gdT rfl (neq rfl) (pick_f rfl (if_f rfl (hsl2.lenV ?_)))
  have hB9 := hO9.bk hB58 (.inl (by simp))
  have hBw9 := hO9.bk hB8 (.inl (by simp))
  have hm9 := hO9.rd hm8 (fun b hb => .inl (by simp [hb]))
  have hsince : Since was was := ⟨rfl, rfl, rfl, rfl, Int.le_refl _⟩
  refine ⟨fun m i w' => ∃ (q : Nat) (L' : List KD), q + m = more.length ∧ i = .int .i64 q ∧ Bk w' px 60 (dCells pd pk lsv) ∧ Bk w' bw 67 cw ∧ sKd.rd w' cw was Fw ∧ Kt w1 w' pk pd 500000 (130 + q) (300000 + 100 * q) L' (px :: bw :: Fw) ∧ ∀ k ∈ L', Since was k, more.length, ⟨0, [was], by omega, rfl, hB9, hBw9, hm9, hk9.up (by omega) (by omega) (by omega) (by omega), fun k hk => by rw [List.mem_singleton.1 hk]; exact hsince⟩, ?_⟩
  rintro m2 _ w10 ⟨q, L', hq, rfl, hB10, hBw10, hm10, hk10, hL'⟩
  have hlast : lastL L' ∈ L' := by
    have := hk10.ne
    unfold lastL
    rw [List.getLast?_eq_getElem?, List.getElem?_eq_getElem (by omega)]
    exact List.getElem_mem _
  refine lss (if_p (fun hlt => ?_) (fun hge2 => ?_))
  · have hql : q < more.length := by omega
    refine ixN (hsl2.fr hk10.frn (fun i _ => by simp)) hql ?_
    obtain ⟨Gj, hrd, _⟩ := rows_get kOp hrows2 q hql
    obtain ⟨pv, Fp, hcs, hpv, hok⟩ := of_kOp hrd
    have h5z : kOp.size = 5 := rfl
    rw [h5z] at hcs
    have hcs' : List.take 5 (List.drop (q * 5) c2) = oCells (opOf more[q]) pv := hcs
    rw [hcs']
    refine alloc_n (n := 5) (by kernel_rfl) ?_
    intro bo w11 l11 hl11 hbo hB11 hF11 _
    refine store_all (n := 5) (vs := oCells (opOf more[q]) pv) hB11 (by kernel_rfl) hl11 rfl (by omega) (fun v hv => by
      simp only [oCells, List.mem_cons, List.not_mem_nil, or_false] at hv
      rcases hv with rfl | rfl | rfl | rfl | rfl
      · rfl
      · rfl
      · rfl
      · rfl
      · exact sSl.one hpv _ (by simp)) ?_
    intro w12 hB12 hF12 _
    have f1012 : Fr [] w10 w12 := hF11.trans hF12 (fun i hi => .inr (by simp at hi; omega))
    have hk12 := hk10.step f1012 (Y2 := px :: bw :: Fw) (fun i hi => .inl hi)
    refine fad (ldC_bk hB12 rfl (eql ?_))
    refine ⟨fun w' => ∃ (L' : List KD), Bk w' px 60 (dCells pd pk lsv) ∧ Bk w' bw 67 cw ∧ sKd.rd w' cw was Fw ∧ Kt w1 w' pk pd 500000 (130 + (q + 1)) (300000 + 100 * (q + 1)) L' (px :: bw :: Fw) ∧ ∀ k ∈ L', Since was k, ?_, if_p (fun h0 => ?_) (fun h0 => ?_)⟩
    · rintro w13 ⟨L2, a1, a2, a3, a4, a5⟩
      exact add64 (by omega) ⟨m2 - 1, by omega, q + 1, L2, by omega, by congr 1, a1, a2, a3, a4, a5⟩
    · obtain ⟨i1, i2, i3, i4, ib⟩ := hok
      have hBx12 := hB10.fr f1012 (by simp)
      refine fad (ldC_bk hBx12 rfl (fad (ldC_bk hB12 rfl (fad (ldC_bk hB12 rfl ((kvote_c hk12 (by omega) (by omega) i3 i4).use ?_))))))
      rintro r w13 ⟨hO, hres⟩
      have b1 := hO.bk hBx12 (.inl (by simp))
      have b2 := hO.bk (hBw10.fr f1012 (by simp)) (.inl (by simp))
      have b3 := hO.rd (sKd.fr hm10 f1012 (fun i _ => by simp)) (fun b hb => .inl (by simp [hb]))
      rcases hres with ⟨_, _, hk13⟩ | ⟨hg, _, hk13⟩
      · exact ⟨L', b1, b2, b3, hk13.up (by omega) (by omega) (by omega) (by omega), hL'⟩
      · refine ⟨_, b1, b2, b3, hk13.up (by omega) (by omega) (by omega) (by omega), fun k hk => ?_⟩
        rcases List.mem_append.1 hk with hk | hk
        · exact hL' k hk
        · rw [List.mem_singleton.1 hk]
          obtain ⟨s1, s2, s3, s4, s5⟩ := hL' _ hlast
          refine ⟨s1, s2, s3, s4, ?_⟩
          show was.term ≤ (opOf more[q]).term
          unfold badVote at hg
          omega
    · exact ⟨L', hB10.fr f1012 (by simp), hBw10.fr f1012 (by simp), sKd.fr hm10 f1012 (fun i _ => by simp), hk12.up (by omega) (by omega) (by omega) (by omega), hL'⟩
  -- the crash
  refine fad (ldC_bk hB10 rfl ((kcrash_c hk10 (by omega) kp).use ?_))
  rintro _ w11 ⟨hO11, rfl, i, hi, _, hcr⟩
  have hB11 := hO11.bk hB10 (.inl (by simp))
  have hBw11 := hO11.bk hBw10 (.inl (by simp))
  have hm11 := hO11.rd hm10 (fun b hb => .inl (by simp [hb]))
  refine neq (if_f rfl (fad (ldC_bk hB11 rfl ((kopen2_c hcr).use ?_))))
  rintro _ w12 ⟨hO12, pk2, rfl, hpk2, hk12⟩
  have hBw12 := hO12.bk hBw11 (.inl (by simp))
  have hm12 := hO12.rd hm11 (fun b hb => .inl (by simp [hb]))
  refine ext0 (ext1 (neq (if_f rfl ?_)))
  have hsin := hL' _ (List.getElem_mem hi)
  obtain ⟨k2, hk2⟩ : ∃ k2, L'[i] = k2 := ⟨_, rfl⟩
  rw [hk2] at hk12 hsin
  obtain ⟨ps2, sv2, ev2, Fc, Fd, hkp12⟩ := hk12.kp
  have hwf2 := hk12.wfl
  rw [lastL_one] at hkp12 hwf2
  refine (now_c hkp12 hwf2.1).use ?_
  rintro _ w13 ⟨hF13, cm, Fm, rfl, hm13, hmn13⟩
  refine ext0 (ext1 ?_)
  obtain ⟨msv, mev, Fe, Ff, rfl, hmS, hmE, rfl⟩ := id hm13
  refine alloc_n (n := 6) (by kernel_rfl) ?_
  intro bm w14 l14 hl14 hbm hB14 hF14 hs14
  refine store_all (n := 6) (vs := mCells k2 msv mev) hB14 szM hl14 rfl (by omega) (sKd.one hm13) ?_
  intro w15 hB15 hF15 hs15
  have f1315 : Fr [] w13 w15 := hF14.trans hF15 (fun i hi => .inr (by simp at hi; omega))
  have f1215 := hF13.t f1315
  obtain ⟨wsv, wev, Fg, Fh, rfl, hwS, hwE, rfl⟩ := id hm12
  have hBw15 := hBw12.fr f1215 (by simp)
  have hd15 := Fr.drew [] w15
  refine notB (gdT rfl (fad rfl) (gdT rfl (ldC_bk hB15 rfl rfl) (gdT rfl (fad rfl) (gdT rfl (ldC_bk hBw15 rfl rfl) (gdT rfl (lss rfl) (pick_f rfl (if_f (by have := hsin.2.2.2.2; simp; omega) ?_)))))))
  refine ⟨fun w' => Bk w' bw 67 (mCells was wsv wev), hBw15.drew, ?_⟩
  refine fad (ldC_S (fun w' h => h) rfl (fad (ldC_S (fun w' h => h) rfl ?_)))
  have z1213 := hF13.size
  have z1315 := f1315.size
  have hwlt := sKd.lt hm12
  have hbwl := hBw12.lt
  refine fad (store' hB15.drew (by kernel_rfl) (by simp [mCells]) rfl ?_)
  intro w16 hB16 hF16 hs16
  refine ⟨hBw15.drew.fr hF16 (by simp; omega), fad (store' hB16 (by kernel_rfl) (by simp [mCells]) rfl ?_)⟩
  intro w17 hB17 hF17 hs17
  obtain ⟨s1, s2, s3, s4, s5⟩ := hsin
  have e17 : (((mCells k2 msv mev).set 0 (.int .i64 was.term)).set 1 (.int .i64 was.vote)) = mCells was msv mev := by
    unfold mCells
    simp [s1, s2]
  have hB17' : Bk w17 bm 67 (mCells was msv mev) := by rw [← e17]; simpa using hB17
  have f1517 : Fr [bm] w15 w17 := ((hd15.mono (fun i hi => by simp at hi)).t hF16).t hF17
  have hBw17 := hBw15.fr f1517 (by simp; omega)
  refine ldA_bk hB17' (Nat.le_refl _) (ldA_bk hBw17 (Nat.le_refl _) ?_)
  have ea : List.take 6 (List.drop 0 (mCells was msv mev)) = mCells was msv mev := rfl
  have eb : List.take 6 (List.drop 0 (mCells was wsv wev)) = mCells was wsv wev := rfl
  rw [ea, eb]
  have f1317 : Fr [bm] w13 w17 := (f1315.mono (fun i hi => by simp at hi)).t f1517
  have hmlt13 := sKd.lt hm13
  have hr1 : sKd.rd w17 (mCells was msv mev) was (Fe ++ Ff) := ⟨msv, mev, Fe, Ff, rfl, by rw [← s3]; exact sSl.fr hmS f1317 (fun i hi hm => by have := hmlt13 i (by simp [hi]); simp at hm; omega), by rw [← s4]; exact sEns.fr hmE f1317 (fun i hi hm => by have := hmlt13 i (by simp [hi]); simp at hm; omega), rfl⟩
  have hr2 := sKd.fr (sKd.fr hm12 f1215 (fun i _ => by simp)) f1517 (fun i hi hm => by have := hwlt i hi; simp at hm; omega)
  refine (same_c hr1 hr2 hwf.1 hwf.1).use ?_
  rintro _ w18 ⟨hF18, c, rfl, hc⟩
  refine ⟨by rw [hc.2 rfl], ?_⟩
  have hw1 := hk12.frn
  exact ((hFa.t (hw1.t f1215)).trans f1517 (fun i hi => .inr (by have := (hFa.t hw1).size; simp at hi; omega))).t hF18
end Go.Proofs.Ytmlaconjeplhpaa

set_option linter.unusedVariables false
set_option linter.unusedSimpArgs false
set_option maxRecDepth 20000
namespace Go.Proofs.Ytmlaconjeplhpaa
open Go Go.Vc

theorem kcuts_c {w : World} {x0 : Value} {list : List (List Nat)} {at' up term : Int} {F0 : List Nat} (hx0 : aLists.rd w [x0] list F0) (hi3 : I64 term) :
    CallF Try.prog 10 #[x0, .int .i64 at', .int .i64 up, .int .i64 term] w fun r w' => r = .bool true ∧ Fr [] w w' := by
  refine C_furlonglaw16_KeepCuts_link ?_
  unfold C_furlonglaw16_KeepCuts
  refine kawake_c.use ?_
  rintro _ w1 ⟨rfl, hFa⟩
  refine notB (if_f rfl ?_)
  obtain ⟨c0, G0, hcap0, hsl0, hrows0, _⟩ := list_open (aLists.fr hx0 hFa (fun i _ => by simp))
  have early : Value.bool true = .bool true ∧ Fr [] w w1 := ⟨rfl, hFa⟩
  refine hsl0.lenV (lss ?_)
  cases d1 : decide ((list.length : Int) < 1) with
  | true =>
    repeat first | refine gdF rfl ?_ | refine pick_t rfl ?_
    exact if_t rfl early
  | false =>
  refine gdT rfl rfl (gdT rfl (hsl0.lenV rfl) (gdT rfl (gtr rfl) (pick_f rfl ?_)))
  cases d2 : decide ((40 : Int) < (list.length : Int)) with
  | true =>
    repeat first | refine gdF rfl ?_ | refine pick_t rfl ?_
    exact if_t rfl early
  | false =>
  refine gdT rfl rfl (gdT rfl (lss rfl) (pick_f rfl ?_))
  cases d3 : decide (at' < 1) with
  | true =>
    repeat first | refine gdF rfl ?_ | refine pick_t rfl ?_
    exact if_t rfl early
  | false =>
  refine gdT rfl rfl (gdT rfl rfl (gdT rfl (hsl0.lenV rfl) (gdT rfl (gtr rfl) (pick_f rfl ?_))))
  cases d4 : decide ((list.length : Int) < at') with
  | true =>
    repeat first | refine gdF rfl ?_ | refine pick_t rfl ?_
    exact if_t rfl early
  | false =>
  refine gdT rfl rfl (gdT rfl (lss rfl) (pick_f rfl ?_))
  cases d5 : decide (up < 1) with
  | true =>
    repeat first | refine gdF rfl ?_ | refine pick_t rfl ?_
    exact if_t rfl early
  | false =>
  refine gdT rfl rfl (gdT rfl rfl (gdT rfl (gtr rfl) (pick_f rfl ?_)))
  cases d6 : decide (at' < up) with
  | true =>
    repeat first | refine gdF rfl ?_ | refine pick_t rfl ?_
    exact if_t rfl early
  | false =>
  refine gdT rfl rfl (gdT rfl (lss rfl) (pick_f rfl (if_p (fun _ => early) (fun d7 => ?_))))
  simp only [decide_eq_false_iff_not] at d1 d2 d3 d4 d5 d6
  obtain ⟨a, ha⟩ : ∃ a : Nat, at' = a + 1 := ⟨(at' - 1).toNat, by omega⟩
  obtain ⟨u, hu⟩ : ∃ u : Nat, up = u + 1 := ⟨(up - 1).toNat, by omega⟩
  subst ha hu
  refine kbegin_c.use ?_
  rintro r w2 ⟨cells, rfl, hcl, hco, hF2, hks⟩
  refine ext0 (ext1 ?_)
  refine alloc_n (n := 3) (by kernel_rfl) ?_
  intro px w3 l3 hl3 hpx hB3 hF3 _
  refine store_all (n := 3) (vs := cells) hB3 (by kernel_rfl) hl3 hcl (by omega) hco ?_
  intro w4 hB4 hF4 _
  obtain ⟨pd, pk, lsv, FL, h4⟩ : Dk16 w1 w4 px 500000 1 200 [KD.new] := hks px w4 (hF3.trans hF4 (fun i hi => .inr (by simp at hi; omega))) (by omega) hB4
  have hpx1 := h4.new
  refine notB (if_f rfl (hsl0.lenV ?_))
  refine ⟨fun m _ i w' => ∃ (j : Nat) (L : List KD), j + m = list.length ∧ i = .int .i64 j ∧ Bk w' px 60 (dCells pd pk lsv) ∧ Kt w1 w' pk pd 500000 (1 + j) (200 + 2200 * j) L [px] ∧ (lastL L).base = 0 ∧ (lastL L).ents.length = j ∧ ∀ e ∈ (lastL L).ents, e.1 = 3, list.length, ⟨0, [KD.new], by omega, rfl, h4.blk, h4.kt.step (Fr.refl _ _) (fun i hi => .inl (by simp at hi; simp [hi])), rfl, rfl, fun e he => by simp [lastL, KD.new] at he⟩, ?_⟩
  rintro m v8 _ w5 ⟨j, L, hj, rfl, hB5, hk5, hbase, hents, hthree⟩
  have hF5 := hk5.frn
  refine lss (if_p (fun hlt => ?_) (fun hge => ?_))
  · have hjl : j < list.length := by omega
    obtain ⟨pv, Fp, hcp, hpv, hpb⟩ := lists_get hrows0 hjl
    obtain ⟨hps, hpo⟩ := sSl_sl hpv
    refine ix1 (hsl0.fr hF5 (fun i _ => by simp)) hjl hcp ?_
    refine hps.lenV (gtr (if_p (fun _ => ⟨rfl, hFa.t hF5⟩) (fun hle => ?_)))
    refine fad (ldC_bk hB5 rfl (add64 (by omega) ?_))
    refine (kput_c hk5 (by omega) (i := (j : Int) + 1) (t := 3) (by omega) (by unfold I64; omega) (hps.fr hk5.frn (fun i _ => by simp)) (fun h0 i hi => .inr (hpo h0 i hi)) hpb).use ?_
    rintro r w7 ⟨hO, ⟨hb, _⟩ | ⟨hb, rfl, hk7⟩⟩
    · exfalso
      unfold badPut at hb
      rw [hbase, hents] at hb
      omega
    have hjt : ((j : Int) + 1 - (lastL L).base - 1).toNat = j := by rw [hbase]; omega
    rw [hjt] at hk7
    have hput : ((lastL L).put j 3 list[j]).ents = (lastL L).ents ++ [(3, list[j])] := by
      show (lastL L).ents.take j ++ _ = _
      rw [List.take_of_length_le (by omega)]
    refine neq (if_f rfl (add64 (by omega) ⟨m - 1, by omega, j + 1, _, by omega, by congr 1, hO.bk hB5 (.inl (by simp)), hk7.up (by omega) (by omega) (by omega) (by omega), ?_, ?_, ?_⟩))
    · rw [lastL_snoc]; exact hbase
    · rw [lastL_snoc, hput, List.length_append, hents]; rfl
    · rw [lastL_snoc, hput]
      intro e he
      rcases List.mem_append.1 he with he | he
      · exact hthree e he
      · rw [List.mem_singleton.1 he]
  obtain rfl : j = list.length := by omega
  -- the entry in the place of another
  obtain ⟨k, hk⟩ : ∃ k, lastL L = k := ⟨_, rfl⟩
  rw [hk] at hbase hents hthree
  refine fad (ldC_bk hB5 rfl (litB ?_))
  intro b6 w6 hb6 hB6 hF6 hs6
  have hk6 := hk5.step hF6 (Y2 := [px, b6]) (fun i hi => by
    simp at hi
    rcases hi with rfl | rfl
    · exact .inl (by simp)
    · exact .inr (by omega))
  refine (kput_c hk6 (by omega) (d := [9]) (i := (a : Int) + 1) (t := 5) (by simp; omega) (by unfold I64; omega) (hB6.sl rfl 1) (fun _ i hi => .inl (by simp [fp_some] at hi; simp [hi])) (by simp)).use ?_
  rintro r w7 ⟨hO7, ⟨hb, _⟩ | ⟨hb, rfl, hk7⟩⟩
  · exfalso
    unfold badPut at hb
    rw [hk, hbase, hents] at hb
    simp at hb
    omega
  rw [hk] at hk7
  have hat : ((a : Int) + 1 - k.base - 1).toNat = a := by rw [hbase]; omega
  rw [hat] at hk7
  obtain ⟨k2, hk2⟩ : ∃ k2, k.put a 5 [9] = k2 := ⟨_, rfl⟩
  have hb2 : k2.base = 0 := by rw [← hk2]; exact hbase
  have he2 : k2.ents = k.ents.take a ++ [(5, [9])] := by rw [← hk2]; rfl
  have hl2 : k2.ents.length = a + 1 := by rw [he2, List.length_append, List.length_take]; simp; omega
  rw [hk2] at hk7
  have hB7 := hO7.bk (hB5.fr hF6 (by simp)) (.inl (by simp))
  obtain ⟨ps, sv, ev, Fa, Fb, hkp7⟩ := hk7.kp
  rw [lastL_snoc] at hkp7
  obtain ⟨cells7, G7, _, hsl7, _⟩ := list_open hkp7.ent
  refine neq (gdT rfl (fad rfl) (gdT rfl (ldC_bk hB7 rfl rfl) (gT rfl ((last_c hkp7.blk hsl7 (by rw [hb2]; omega) (by omega)).use ?_))))
  rintro _ w8 ⟨rfl, hw8⟩
  have f78 : Fr [] w7 w8 := by rw [hw8]; exact Fr.drew [] _
  refine gdT rfl rfl (gdT rfl (neq rfl) (pick_f rfl (if_f (by rw [hb2, hl2]; simp) ?_)))
  have hk8 := hk7.step f78 (Y2 := [px]) (fun i hi => .inl (by simp at hi; simp [hi]))
  have hB8 := hB7.fr f78 (by simp)
  -- the term at that index
  obtain ⟨mine, hmine⟩ : ∃ mine : Int, (if u = a then (5 : Int) else 3) = mine := ⟨_, rfl⟩
  have hmt : (k2.ents.getD u (0, [])).1 = mine := by
    rw [he2, ← hmine]
    by_cases hua : u = a
    · rw [if_pos hua, List.getD_eq_getElem?_getD, List.getElem?_append_right (by rw [List.length_take]; omega)]
      have : u - (k.ents.take a).length = 0 := by rw [List.length_take]; omega
      rw [this]; rfl
    · rw [if_neg hua, List.getD_eq_getElem?_getD, List.getElem?_append_left (by rw [List.length_take]; omega), List.getElem?_take, if_pos (by omega), List.getElem?_eq_getElem (by omega)]
      exact hthree _ (List.getElem_mem _)
  refine eql ⟨fun v w' => v = .int .i64 mine ∧ w' = w8, ?_, if_p (fun hc => ⟨by rw [← hmine, if_pos (by omega)], rfl⟩) (fun hc => ⟨by rw [← hmine, if_neg (by omega)], rfl⟩)⟩
  rintro _ _ ⟨rfl, rfl⟩
  refine fad (ldC_bk hB8 rfl (litB ?_))
  intro b9 w9 hb9 hB9 hF9 hs9
  have hk9 := hk8.step hF9 (Y2 := [px]) (fun i hi => .inl hi)
  refine (kreset_c hk9 (by omega) (d := [8]) (i := (u : Int) + 1) (t := term) (by simp; omega) (by unfold I64; omega) hi3 (hB9.sl rfl 1) (by simp)).use ?_
  rw [lastL_snoc]
  rintro r w10 ⟨hO10, ⟨hb', _⟩ | ⟨hb', hl', _⟩ | ⟨hb', hl', rfl, hk10⟩⟩
  · exfalso
    unfold badReset at hb'
    rw [hb2] at hb'
    omega
  · simp at hl'
  refine neq (if_f rfl ?_)
  have hB10 := hO10.bk (hB8.fr hF9 (by simp)) (.inl (by simp))
  obtain ⟨k3, hk3⟩ : ∃ k3, k2.reset ((u : Int) + 1) term [8] = k3 := ⟨_, rfl⟩
  rw [hk3] at hk10
  have hb3 : k3.base = (u : Int) + 1 := by rw [← hk3]; rfl
  have ht3 : k3.bterm = term := by rw [← hk3]; rfl
  have he3 : k3.ents = if mine = term then k2.ents.drop (u + 1) else [] := by
    rw [← hk3]
    show resetE k2 _ _ = _
    unfold resetE
    rw [hb2, hl2, show ((u : Int) + 1 - 0 - 1).toNat = u by omega, show ((u : Int) + 1 - 0).toNat = u + 1 by omega, hmt]
    by_cases hmm : mine = term
    · rw [if_pos hmm, if_pos ⟨by omega, hmm⟩]
    · rw [if_neg hmm, if_neg (fun h => hmm h.2)]
  obtain ⟨ps2, sv2, ev2, Fc, Fd, hkp10⟩ := hk10.kp
  have hwf3 := hk10.wfl
  rw [lastL_one] at hkp10 hwf3
  refine fad (ldC_bk hB10 rfl ((now_c hkp10 hwf3.1).use ?_))
  rintro _ w11 ⟨hF11, cm, Fm, rfl, hm11, hmn⟩
  refine ext0 (ext1 ?_)
  obtain ⟨msv, mev, Fe, Ff, rfl, hmS, hmE, rfl⟩ := id hm11
  refine alloc_n (n := 6) (by kernel_rfl) ?_
  intro bm w12 l12 hl12 hbm hB12 hF12 hs12
  refine store_all (n := 6) (vs := mCells k3 msv mev) hB12 szM hl12 rfl (by omega) (sKd.one hm11) ?_
  intro w13 hB13 hF13 hs13
  have f1113 : Fr [] w11 w13 := hF12.trans hF13 (fun i hi => .inr (by simp at hi; omega))
  have f1013 := hF11.t f1113
  have hfin : Fr [] w w13 := hFa.t (hk10.frn.t f1013)
  have hmE13 := sEns.fr hmE f1113 (fun i _ => by simp)
  obtain ⟨cells13, G13, _, hsl13, hrows13, _⟩ := list_open hmE13
  obtain ⟨want, hwant⟩ : ∃ want : Nat, k3.ents.length = want := ⟨_, rfl⟩
  have hwl : want ≤ 100 := by
    rw [← hwant, he3]
    split
    · rw [List.length_drop, hl2]; omega
    · simp
  refine sub64 (by omega) (neq ⟨fun v w' => v = .int .i64 want ∧ w' = w13, ?_, if_p (fun hc => ⟨?_, rfl⟩) (fun hc => ⟨?_, rfl⟩)⟩)
  case refine_2 =>
    have : k3.ents.length = 0 := by rw [he3, if_neg (fun h => hc h.symm)]; rfl
    rw [← hwant, this]; rfl
  case refine_3 =>
    have : k3.ents.length = a - u := by rw [he3, if_pos (by omega), List.length_drop, hl2]; omega
    rw [← hwant, this]
    congr 1
    omega
  rintro _ wz ⟨rfl, hz⟩
  rw [hz]
  refine notB (gdT rfl (fad rfl) (gdT rfl (ldC_bk hB13 rfl rfl) (gdT rfl rfl (gdT rfl (neq rfl) (pick_f rfl ?_)))))
  have g1 : decide (k3.base ≠ (u : Int) + 1) = false := by rw [hb3]; simp
  rw [g1]
  refine gdT rfl (fad rfl) (gdT rfl (ldC_bk hB13 rfl rfl) (gdT rfl rfl (gdT rfl (neq rfl) (pick_f rfl ?_))))
  have g2 : decide (k3.bterm ≠ term) = false := by rw [ht3]; simp
  rw [g2]
  refine gdT rfl (fad rfl) (gdT rfl (ldC_bk hB13 rfl rfl) (gdT rfl (hsl13.lenV rfl) (gdT rfl rfl (gdT rfl (neq rfl) (pick_f rfl (if_f (by rw [hwant]; simp) ?_))))))
  refine eql ?_
  cases hw0 : decide ((want : Int) = 0) with
  | true =>
    refine gdF rfl (gdF rfl (gdF rfl (gdF rfl (gdF rfl (gdF rfl (gdF rfl (gdF rfl (gdF rfl ?_))))))))
    repeat first | refine gdF rfl ?_ | refine gF rfl ?_ | refine pick_t rfl ?_
    exact ⟨rfl, hfin⟩
  | false =>
  have hwn : want ≠ 0 := by intro e; rw [e] at hw0; simp at hw0
  have hmm : mine = term := by
    by_cases hmm : mine = term
    · exact hmm
    · exfalso
      have : k3.ents.length = 0 := by rw [he3, if_neg hmm]; rfl
      omega
  have hwl' : want - 1 < k3.ents.length := by omega
  have hlast : k3.ents[want - 1] = (5, [9]) := by
    have hl3 : k3.ents.length = a - u := by rw [he3, if_pos hmm, List.length_drop, hl2]; omega
    have e1 : k3.ents[want - 1]? = some (5, [9]) := by
      rw [he3, if_pos hmm, List.getElem?_drop, he2, List.getElem?_append_right (by rw [List.length_take]; omega)]
      have : u + 1 + (want - 1) - (k.ents.take a).length = 0 := by rw [List.length_take]; omega
      rw [this]; rfl
    rw [List.getElem?_eq_getElem hwl'] at e1
    exact Option.some.inj e1
  obtain ⟨q, eq0, eq1, hq⟩ := ent_cells hrows13 hwl'
  rw [hlast] at eq0 hq
  obtain ⟨a1, b1, x1, x2, x3⟩ := ixo_ex (κ := .i64) (S := At w13) (fun w' h => by rw [show w' = w13 from h]; exact hsl13) hsl13 hwl' eq0
  obtain ⟨a2, b2, y1, y2, y3⟩ := ixo_ex (κ := .i64) (S := At w13) (fun w' h => by rw [show w' = w13 from h]; exact hsl13) hsl13 hwl' eq1
  refine gdT rfl (fad rfl) (gdT rfl (ldC_bk hB13 rfl rfl) (gdT rfl rfl (gdT rfl (sub64 (by omega) rfl) ?_)))
  rw [show (want : Int) - 1 = ((want - 1 : Nat) : Int) by omega]
  refine gdT rfl x1 (gdT rfl x2 (gdT rfl x3 (gdT rfl (eql rfl) (gdT rfl rfl ?_))))
  refine gdT rfl (fad rfl) (gdT rfl (ldC_bk hB13 rfl rfl) (gdT rfl rfl (gdT rfl (sub64 (by omega) rfl) ?_)))
  rw [show (want : Int) - 1 = ((want - 1 : Nat) : Int) by omega]
  refine gdT rfl y1 (gdT rfl y2 (gdT rfl y3 (gT rfl (litB ?_))))
  intro b14 w14 hb14 hB14 hF14 hs14
  refine gT rfl ((bytes_c (a := [9]) (b := [9]) (hq.fr hF14 (fun i _ => by simp)) (by simp) (hB14.sl rfl 1) (by simp)).use ?_)
  rintro _ w15 ⟨rfl, hw15⟩
  rw [hw15]
  exact gdT rfl (pick_t rfl rfl) (pick_f rfl ⟨rfl, hfin.t hF14⟩)
end Go.Proofs.Ytmlaconjeplhpaa

set_option linter.unusedVariables false
set_option linter.unusedSimpArgs false
set_option maxRecDepth 20000
namespace Go.Proofs.Ytmlaconjeplhpaa
open Go Go.Vc

theorem kopen_nil {w : World} : CallF Try.prog 40 #[.pointer none] w fun r w' => r = .tuple #[.pointer none, .int .i64 17] ∧ Fr [] w w' := by
  refine C_keep_Open_link ?_
  unfold C_keep_Open
  refine open_nil.use ?_
  rintro _ w2 ⟨rfl, hF2⟩
  refine ext0 (ext1 (ext2 ?_))
  refine alloc_n (n := 3) (by kernel_rfl) ?_
  intro b3 w3 l3 hl3 hb3 hB3 hF3 _
  refine store_all (n := 3) (vs := [.bool false, .slice none 0 0, .slice none 0 0]) hB3 (by kernel_rfl) hl3 rfl (by omega) (by simp [Value.oneCell']) ?_
  intro w4 hB4 hF4 _
  exact neq (if_t (by decide) ⟨rfl, hF2.t (hF3.trans hF4 (fun i hi => .inr (by simp at hi; omega)))⟩)
theorem knil_c {w : World} {x : Value} {index term : Int} {p F : List Nat} (hx : aBytes.rd w [x] p F) (hl : p.length ≤ 1000000000) :
    CallF Try.prog 11 #[.int .i64 index, .int .i64 term, x] w fun r w' => r = .bool true ∧ Fr [] w w' := by
  obtain ⟨x', Fx, ex, hsx, hxb⟩ := of_aBytes hx
  obtain rfl := (List.cons.inj ex).1
  obtain ⟨hxs, _⟩ := sSl_sl hsx
  refine C_furlonglaw16_KeepNil_link ?_
  unfold C_furlonglaw16_KeepNil
  refine kawake_c.use ?_
  rintro _ w1 ⟨rfl, hF1⟩
  refine notB (if_f rfl ?_)
  refine kopen_nil.use ?_
  rintro _ w2 ⟨rfl, hF2⟩
  refine ext0 (ext1 (nilk_base.use ?_))
  rintro _ w3 ⟨rfl, e3⟩
  rw [e3]
  refine ext0 (ext1 (ext2 (nilk_entry.use ?_)))
  rintro _ w4 ⟨rfl, e4⟩
  rw [e4]
  refine ext0 (ext1 (ext2 ?_))
  refine ptr_neq und57 (gdT rfl rfl (gdT rfl (neq rfl) (pick_f rfl ?_)))
  refine gdT rfl rfl (gdT rfl rfl (gT rfl (nilk_vote.use ?_)))
  rintro _ w5 ⟨rfl, e5⟩
  rw [e5]
  refine gdT rfl (neq rfl) (pick_f rfl (gdT rfl rfl (gdT rfl rfl (gdT rfl rfl (gdT rfl rfl (gT rfl (nilk_put.use ?_)))))))
  rintro _ w6 ⟨rfl, e6⟩
  rw [e6]
  refine gdT rfl (neq rfl) (pick_f rfl (gdT rfl rfl (gdT rfl rfl (gdT rfl rfl (gdT rfl rfl (gT rfl (nilk_reset.use ?_)))))))
  rintro _ w7 ⟨rfl, e7⟩
  rw [e7]
  refine gdT rfl (neq rfl) (pick_f rfl (gdT rfl rfl (gT rfl (nilk_sync.use ?_))))
  rintro _ w8 ⟨rfl, e8⟩
  rw [e8]
  refine gdT rfl (neq rfl) (pick_f rfl (gdT rfl rfl (gT rfl (nilk_term.use ?_))))
  rintro _ w9 ⟨rfl, e9⟩
  rw [e9]
  refine gdT rfl rfl (gT rfl (nilk_voted.use ?_))
  rintro _ w10 ⟨rfl, e10⟩
  rw [e10]
  refine gdT rfl (add64 (by omega) rfl) (gdT rfl rfl (gT rfl (nilk_last.use ?_)))
  rintro _ w11 ⟨rfl, e11⟩
  rw [e11]
  refine gdT rfl (add64 (by omega) rfl) (gdT rfl rfl (gdT rfl (add64 (by omega) rfl) (gdT rfl rfl (gdT rfl (add64 (by omega) rfl) (gdT rfl rfl (gdT rfl (len rfl) (gdT rfl (add64 (by decide) rfl) (gdT rfl rfl (gdT rfl (add64 (by decide) rfl) (gdT rfl rfl (gdT rfl (len rfl) (gdT rfl (add64 (by decide) rfl) (gdT rfl (neq rfl) (pick_f rfl ?_))))))))))))))
  refine gdT rfl rfl (gdT rfl (neq rfl) (pick_f rfl (if_f rfl ?_)))
  have hF02 := hF1.t hF2
  refine hxs.lenV (gtr (if_p (fun _ => ⟨rfl, hF02⟩) (fun hle => ?_)))
  refine kbegin_c.use ?_
  rintro r wb ⟨cells, rfl, hcl, hco, hFb, hks⟩
  refine ext0 (ext1 ?_)
  refine alloc_n (n := 3) (by kernel_rfl) ?_
  intro px wc lc hlc hpx hBc hFc _
  refine store_all (n := 3) (vs := cells) hBc (by kernel_rfl) hlc hcl (by omega) hco ?_
  intro wd hBd hFd _
  obtain ⟨pd, pk, lsv, FL, hd⟩ : Dk16 w2 wd px 500000 1 200 [KD.new] := hks px wd (hFc.trans hFd (fun i hi => .inr (by simp at hi; omega))) (by omega) hBd
  have hpx1 := hd.new
  have hk0 := hd.kt.step (Fr.refl _ _) (Y2 := [px]) (fun i hi => .inl (by simp at hi; simp [hi]))
  have hB0 := hd.blk
  refine (twin_c (hxs.fr (hF02.t hk0.frn) (fun i _ => by simp)) hl).use ?_
  intro q we hNe
  have hqlt := hNe.own.lt
  have hqn := hNe.new
  have zk := hk0.frn.size
  have hke := hk0.step hNe.fr (Y2 := px :: fp q) (fun i hi => by
    rcases List.mem_cons.1 hi with rfl | hi
    · exact .inl (by simp)
    · exact .inr ⟨hqn i hi, hqlt i hi⟩)
  have hBe := hB0.fr hNe.fr (by simp)
  have l0 : lastL [KD.new] = KD.new := rfl
  refine notB (gdT rfl (fad rfl) (gdT rfl (ldC_bk hBe rfl rfl) (gdT rfl rfl (gT rfl ((kput_c hke (by omega) (i := 1) (t := 0) (by omega) (by unfold I64; omega) hNe.own.sl (fun _ i hi => .inl (by simp [hi])) hxb).use ?_)))))
  rintro r wf ⟨hOf, ⟨hb, _⟩ | ⟨hb, rfl, hkf⟩⟩
  · exfalso; revert hb; rw [l0]; simp [badPut, KD.new]; omega
  rw [l0] at hkf
  have hBf := hOf.bk hBe (.inl (by simp))
  have hqf : Own wf 5 1 q p.length (bytes p) := by
    obtain ⟨X, fX, hX⟩ := hOf
    exact hNe.own.fr fX (fun i hi hm => (hX i hm).1 (by simp [hi]))
  obtain ⟨k1, hk1⟩ : ∃ k1, KD.new.put ((1 : Int) - KD.new.base - 1).toNat 0 p = k1 := ⟨_, rfl⟩
  have hk1e : k1 = ⟨0, -1, 0, 0, [], [(0, p)]⟩ := by rw [← hk1]; rfl
  rw [hk1, hk1e] at hkf
  refine gdT rfl (neq rfl) (pick_f rfl (gdT rfl (fad rfl) (gdT rfl (ldC_bk hBf rfl rfl) (gdT rfl rfl (gT rfl ((kput_c hkf (by omega) (i := 2) (t := 0) (by omega) (by unfold I64; omega) hqf.sl (fun _ i hi => .inl (by simp [hi])) hxb).use ?_))))))
  rw [lastL_snoc]
  rintro r wg ⟨hOg, ⟨hb, _⟩ | ⟨hb, rfl, hkg⟩⟩
  · exfalso; revert hb; simp [badPut]; omega
  have hBg := hOg.bk hBf (.inl (by simp))
  have hqg : Own wg 5 1 q p.length (bytes p) := by
    obtain ⟨X, fX, hX⟩ := hOg
    exact hqf.fr fX (fun i hi hm => (hX i hm).1 (by simp [hi]))
  have e2 : KD.put ⟨0, -1, 0, 0, [], [(0, p)]⟩ ((2 : Int) - 0 - 1).toNat 0 p = ⟨0, -1, 0, 0, [], [(0, p), (0, p)]⟩ := rfl
  have hkg' : Kt w2 wg pk pd 500000 _ _ (([KD.new] ++ [⟨0, -1, 0, 0, [], [(0, p)]⟩]) ++ [⟨0, -1, 0, 0, [], [(0, p), (0, p)]⟩]) (px :: fp q) := hkg
  refine gdT rfl (neq rfl) (pick_f rfl (gdT rfl (fad rfl) (gdT rfl (ldC_bk hBg rfl rfl) (gdT rfl rfl (gT rfl ((kreset_c hkg' (by omega) (i := 1) (t := 0) (by omega) (by unfold I64; omega) (by unfold I64; omega) hqg.sl hxb).use ?_))))))
  rw [lastL_snoc]
  rintro r wh ⟨hOh, ⟨hb, _⟩ | ⟨hb, hb', _⟩ | ⟨hb, _, rfl, hkh⟩⟩
  · exfalso; revert hb; simp [badReset]
  · omega
  have hBh := hOh.bk hBg (.inl (by simp))
  have hqh : Own wh 5 1 q p.length (bytes p) := by
    obtain ⟨X, fX, hX⟩ := hOh
    exact hqg.fr fX (fun i hi hm => (hX i hm).1 (by simp [hi]))
  have e3' : KD.reset ⟨0, -1, 0, 0, [], [(0, p), (0, p)]⟩ 1 0 p = ⟨0, -1, 1, 0, p, [(0, p)]⟩ := rfl
  rw [e3'] at hkh
  obtain ⟨kk, hkk⟩ : ∃ kk : KD, (⟨0, -1, 1, 0, p, [(0, p)]⟩ : KD) = kk := ⟨_, rfl⟩
  rw [hkk] at hkh
  have kbase : kk.base = 1 := by rw [← hkk]
  have kents : kk.ents = [(0, p)] := by rw [← hkk]
  have ksnap : kk.snap = p := by rw [← hkk]
  generalize hbn : 1 + 1 + 1 + 1 = bn at hkh
  generalize hzn : 200 + p.length + 100 + p.length + 100 + p.length + 100 = zn at hkh
  refine gdT rfl (neq rfl) (pick_f rfl (if_f rfl (hqh.sl.lenV ?_)))
  have hqw : ∀ i ∈ fp q, w2.heap.size ≤ i := fun i hi => by have := hqn i hi; omega
  refine ⟨fun m t w' => ∃ j vs, j + m = p.length ∧ t = .int .i64 (j : Nat) ∧ Own w' 5 1 q p.length vs ∧ (∀ u ∈ vs, ∃ z, u = Value.int .u8 z) ∧ Bk w' px 60 (dCells pd pk lsv) ∧ Kt w2 w' pk pd 500000 bn zn [kk] (px :: fp q), p.length, ⟨0, _, by omega, rfl, hqh, bytes_ints p, hBh, hkh⟩, ?_⟩
  rintro m t wi ⟨j, vs, hj, rfl, hqi, hii, hBi, hki⟩
  have hpq : px ∉ fp q := fun hm => by have := hqn _ hm; have := hB0.lt; omega
  refine lss (if_p (fun hlt => ?_) (fun _ => ?_))
  · have hvl : vs.length = p.length := by have := hqi.1; omega
    have hjl : j < vs.length := by omega
    obtain ⟨z, hz⟩ := hii vs[j] (List.getElem_mem hjl)
    have hz' : vs[j]? = some (.int .u8 z) := by rw [List.getElem?_eq_getElem hjl, hz]
    refine ix1 hqi.sl (by omega) hz' ⟨rfl, ?_⟩
    refine own_set hqi (by omega) hz' (by kernel_rfl) rfl ?_
    intro w18 hq18 hF18 _
    exact add64 (by omega) ⟨m - 1, by omega, j + 1, _, by omega, by congr 1, hq18, set_ints hii, hBi.fr hF18 hpq, hki.touch hF18 (fun i hi => ⟨by simp [hi], hqw i hi⟩)⟩
  -- what is told
  obtain ⟨ps, sv, ev, Fa, Fb, hkp⟩ := hki.kp
  have hwfi := hki.wfl
  rw [lastL_one] at hkp hwfi
  have hbk : 0 ≤ kk.base ∧ kk.base ≤ 1152921504606846976 := hwfi.1.b
  have hel : kk.ents.length = 1 := by rw [kents]; rfl
  have he0 : ∀ h : 0 < kk.ents.length, kk.ents[0] = (0, p) := fun h => by simp [kents]
  refine fad (ldC_bk hBi rfl ((entry_in hkp (i := 2) (j := 0) (by omega) (by rw [kbase]; rfl) hbk (by omega) (by rw [he0]; show p.length ≤ 1000000; omega)).use ?_))
  rintro _ wj ⟨g, rfl, hNg⟩
  rw [he0 (by omega)] at hNg
  replace hNg : Row wi wj g p := hNg
  refine ext0 (ext1 (ext2 ?_))
  have hBj := hBi.fr hNg.fr (by simp)
  have hkpj := hkp.fresh hNg.fr
  refine fad (ldC_bk hBj rfl ((base_c hkpj (by have := hwfi.1.snapL; omega)).use ?_))
  rintro _ wk ⟨s, rfl, hNs⟩
  rw [ksnap] at hNs
  refine ext0 (ext1 (ext2 ?_))
  have hgown := hNg.own.fr hNs.fr (fun i _ => by simp)
  have hglt := hNg.own.lt
  have hgn := hNg.new
  have hslt := hNs.own.lt
  have hsn := hNs.new
  have fik := hNg.fr.t hNs.fr
  have zj : wi.heap.size ≤ wj.heap.size := hNg.fr.size
  have zjk : wj.heap.size ≤ wk.heap.size := hNs.fr.size
  have hkk2 := hki.step fik (Y2 := px :: (fp g ++ fp s)) (fun i hi => by
    rcases List.mem_cons.1 hi with rfl | hi
    · exact .inl (by simp)
    · rcases List.mem_append.1 hi with hi | hi
      · exact .inr ⟨hgn i hi, by have := hglt i hi; omega⟩
      · exact .inr ⟨by have := hsn i hi; omega, hslt i hi⟩)
  have hBk := hBj.fr hNs.fr (by simp)
  have hpxi := hBi.lt
  have zwi := hki.frn.size
  have hpg : px ∉ fp g := fun hm => by have := hgn _ hm; omega
  have hps : px ∉ fp s := fun hm => by have := hsn _ hm; omega
  have hgs : ∀ i ∈ fp g, i ∉ fp s := fun i hi hm => by have := hglt i hi; have := hsn i hm; omega
  refine hgown.sl.lenV ?_
  refine ⟨fun m t w' => ∃ j vs, j + m = p.length ∧ t = .int .i64 (j : Nat) ∧ Own w' 5 1 g p.length vs ∧ (∀ u ∈ vs, ∃ z, u = Value.int .u8 z) ∧ Own w' 5 1 s p.length (bytes p) ∧ Bk w' px 60 (dCells pd pk lsv) ∧ Kt w2 w' pk pd 500000 bn zn [kk] (px :: (fp g ++ fp s)), p.length, ⟨0, _, by omega, rfl, hgown, bytes_ints p, hNs.own, hBk, hkk2⟩, ?_⟩
  rintro m2 t2 wl ⟨j2, vs2, hj2, rfl, hgl, hil, hsl, hBl, hkl⟩
  refine lss (if_p (fun hlt => ?_) (fun _ => ?_))
  · have hvl : vs2.length = p.length := by have := hgl.1; omega
    have hjl : j2 < vs2.length := by omega
    obtain ⟨z, hz⟩ := hil vs2[j2] (List.getElem_mem hjl)
    have hz' : vs2[j2]? = some (.int .u8 z) := by rw [List.getElem?_eq_getElem hjl, hz]
    refine ix1 hgl.sl (by omega) hz' ⟨rfl, ?_⟩
    refine own_set hgl (by omega) hz' (by kernel_rfl) rfl ?_
    intro w18 hq18 hF18 _
    exact add64 (by omega) ⟨m2 - 1, by omega, j2 + 1, _, by omega, by congr 1, hq18, set_ints hil, hsl.fr hF18 (fun i hi hm => hgs i hm hi), hBl.fr hF18 hpg, hkl.touch hF18 (fun i hi => ⟨by simp [hi], by have := hgn i hi; omega⟩)⟩
  refine hsl.sl.lenV ?_
  refine ⟨fun m t w' => ∃ j vs, j + m = p.length ∧ t = .int .i64 (j : Nat) ∧ Own w' 5 1 s p.length vs ∧ (∀ u ∈ vs, ∃ z, u = Value.int .u8 z) ∧ Bk w' px 60 (dCells pd pk lsv) ∧ Kt w2 w' pk pd 500000 bn zn [kk] (px :: (fp g ++ fp s)), p.length, ⟨0, _, by omega, rfl, hsl, bytes_ints p, hBl, hkl⟩, ?_⟩
  rintro m3 t3 wm ⟨j3, vs3, hj3, rfl, hsm, him, hBm, hkm⟩
  refine lss (if_p (fun hlt => ?_) (fun _ => ?_))
  · have hvl : vs3.length = p.length := by have := hsm.1; omega
    have hjl : j3 < vs3.length := by omega
    obtain ⟨z, hz⟩ := him vs3[j3] (List.getElem_mem hjl)
    have hz' : vs3[j3]? = some (.int .u8 z) := by rw [List.getElem?_eq_getElem hjl, hz]
    refine ix1 hsm.sl (by omega) hz' ⟨rfl, ?_⟩
    refine own_set hsm (by omega) hz' (by kernel_rfl) rfl ?_
    intro w18 hq18 hF18 _
    exact add64 (by omega) ⟨m3 - 1, by omega, j3 + 1, _, by omega, by congr 1, hq18, set_ints him, hBm.fr hF18 hps, hkm.touch hF18 (fun i hi => ⟨by simp [hi], by have := hsn i hi; omega⟩)⟩
  obtain ⟨ps', sv', ev', Fc, Fd, hkpm⟩ := hkm.kp
  rw [lastL_one] at hkpm
  refine fad (ldC_bk hBm rfl ((entry_in hkpm (i := 2) (j := 0) (by omega) (by rw [kbase]; rfl) hbk (by omega) (by rw [he0]; show p.length ≤ 1000000; omega)).use ?_))
  rintro _ wn ⟨h2, rfl, hNh⟩
  rw [he0 (by omega)] at hNh
  replace hNh : Row wm wn h2 p := hNh
  refine ext0 (ext1 (ext2 ?_))
  refine fad (ldC_bk (hBm.fr hNh.fr (by simp)) rfl ((base_c (hkpm.fresh hNh.fr) (by have := hwfi.1.snapL; omega)).use ?_))
  rintro _ wo ⟨t4, rfl, hNt⟩
  rw [ksnap] at hNt
  refine ext0 (ext1 (ext2 ?_))
  have hfin : Fr [] w wo := ((hF02.t hkm.frn).t hNh.fr).t hNt.fr
  have hxo := hxs.fr hfin (fun i _ => by simp)
  refine (bytes_c (hNh.own.sl.fr hNt.fr (fun i _ => by simp)) hxb hxo hxb).use ?_
  rintro _ wp ⟨rfl, hwp⟩
  rw [hwp]
  have ep : decide (p = p) = true := by simp
  rw [ep]
  refine gdT rfl rfl (gdT rfl rfl (gT rfl ((bytes_c hNt.own.sl hxb hxo hxb).use ?_)))
  rintro _ wq ⟨rfl, hwq⟩
  rw [hwq, ep]
  exact pick_t rfl ⟨rfl, hfin⟩
end Go.Proofs.Ytmlaconjeplhpaa
