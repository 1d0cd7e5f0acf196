/- The contracts of CommandApart and CommandCuts. -/
import Derived.Test.YtachignmofpngaaLawA
set_option linter.unusedVariables false
set_option linter.unusedSimpArgs false
set_option maxRecDepth 20000
set_option synthInstance.maxSize 1000
namespace Go.Proofs.Ytachignmofpngaa
open Go Go.Vc

theorem apart_c {w : World} {e e' : EntryD} {tv tv' : Value} (he : e.ok) (he' : e'.ok) (hx : Sl w 1 tv e.task.tickets.length (ints e.task.tickets)) (hy : Sl w 1 tv' e'.task.tickets.length (ints e'.task.tickets))
    (hlt : 0 < e.task.tickets.length → ∀ i ∈ fp tv, i < w.heap.size) (hlt' : 0 < e'.task.tickets.length → ∀ i ∈ fp tv', i < w.heap.size) (hb : e.task.tickets.length ≤ 1000000000) (hb' : e'.task.tickets.length ≤ 1000000000) :
    CallF Try.prog 5 #[.agg (e.cells tv).toArray, .agg (e'.cells tv').toArray] w fun r w' => r = .bool true ∧ Fr [] w w' := by
  obtain ⟨A, c, rfl, _⟩ := id hx
  obtain ⟨A', c', rfl, _⟩ := id hy
  refine C_furlonglaw10_CommandApart_link ?_
  unfold C_furlonglaw10_CommandApart
  refine box' (l := e.cells (.slice A _ c)) rfl ?_
  intro b1 w1 hb1 hB1 hF1 hs1
  refine box' (l := e'.cells (.slice A' _ c')) rfl ?_
  intro b2 w2 hb2 hB2 hF2 hs2
  refine (awake_c w2).use ?_
  rintro _ w3 ⟨rfl, hF3⟩
  have hF13 := (hF1.t hF2).t hF3
  have hB13 := (hB1.fr hF2 (by simp)).fr hF3 (by simp)
  have hB23 := hB2.fr hF3 (by simp)
  refine notB (if_f rfl ?_)
  refine ldA_bk hB13 (by simp [EntryD.cells]) ?_
  refine (encodeEntry_c (e := e) (tv := .slice A _ c) he (hx.fr1 hF13 (fun _ i _ => by simp)) (fun h0 i hi => by have := hlt h0 i hi; have := hF13.size; omega) hb).use ?_
  rintro _ w4 ⟨v4, rfl, hF4, hn4, ho4⟩
  refine ext0 (ext1 ?_)
  have hF14 := hF13.t hF4
  refine ldA_bk (hB23.fr hF4 (by simp)) (by simp [EntryD.cells]) ?_
  refine (encodeEntry_c (e := e') (tv := .slice A' _ c') he' (hy.fr1 hF14 (fun _ i _ => by simp)) (fun h0 i hi => by have := hlt' h0 i hi; have := hF14.size; omega) hb').use ?_
  rintro _ w5 ⟨v5, rfl, hF5, hn5, ho5⟩
  refine ext0 (ext1 ?_)
  have hF15 := hF14.t hF5
  have hB15 := (hB13.fr hF4 (by simp)).fr hF5 (by simp)
  have hB25 := (hB23.fr hF4 (by simp)).fr hF5 (by simp)
  refine ⟨fun w' => Bk w' b1 34 (e.cells (.slice A e.task.tickets.length c)) ∧ Bk w' b2 34 (e'.cells (.slice A' e'.task.tickets.length c')), ⟨hB15.drew, hB25.drew⟩, ?_⟩
  have hFd := hF15.t (Fr.drew [] w5)
  refine neq ?_
  by_cases h1 : e.err = 0
  · refine gdT (by simp [isB, h1]) rfl (gdT (by simp [isB, h1]) (neq rfl) (pick_f (by simp [h1]) ?_))
    by_cases h2 : e'.err = 0
    · rw [h1, if_pos rfl, if_pos rfl] at ho4
      rw [h2, if_pos rfl, if_pos rfl] at ho5
      obtain ⟨hok1, hk1⟩ := ok_toD he h1
      obtain ⟨hok2, hk2⟩ := ok_toD he' h2
      have hg : isB (.bool (decide (e'.err ≠ 0))) false = true := by simp [isB, h2]
      refine gdT hg rfl (gdT hg rfl (gdT hg (ldA_S (fun w' h => h.1) (by simp [EntryD.cells]) rfl) (gdT hg (ldA_S (fun w' h => h.2) (by simp [EntryD.cells]) rfl) (gT hg ?_))))
      have s4 : Sl (World.drew w5) 1 v4 e.enc.length (bytes e.enc) := ho4.sl.fr1 (hF5.t (Fr.drew [] w5)) (fun _ i _ => by simp)
      have s5 : Sl (World.drew w5) 1 v5 e'.enc.length (bytes e'.enc) := ho5.sl.fr1 (Fr.drew [] w5) (fun _ i _ => by simp)
      refine (bytes_c s4 (enc_lt he hk1) s5 (enc_lt he' hk2)).use ?_
      rintro _ w6 ⟨rfl, rfl⟩
      refine ⟨⟨hB15.drew, hB25.drew⟩, gT hg ?_⟩
      refine (sameEntry_c (e := e) (e' := e') (tv := .slice A _ c) (tv' := .slice A' _ c') (hx.fr1 hFd (fun _ i _ => by simp)) (hy.fr1 hFd (fun _ i _ => by simp)) (by omega)).use ?_
      rintro _ w7 ⟨rfl, hF7⟩
      refine ⟨⟨hB15.drew.fr hF7 (by simp), hB25.drew.fr hF7 (by simp)⟩, ?_⟩
      refine gdT hg (eq_bool Try.underlying4 rfl) (pick_f (by simp [h2]) ⟨?_, hFd.t hF7⟩)
      have hiff : e.enc = e'.enc ↔ e.toD = e'.toD := by
        rw [← enc_toD he hk1, ← enc_toD he' hk2]
        exact ⟨enc_inj cEntry _ _ hok1 hok2, fun h => by rw [h]⟩
      have hdec : decide (e.enc = e'.enc) = decide (e.toD = e'.toD) := decide_eq_decide.2 hiff
      rw [hdec]
      simp
    · have hg : isB (.bool (decide (e'.err ≠ 0))) false = false := by simp [isB, h2]
      refine gdF hg (gdF hg (gdF hg (gdF hg (gF hg ⟨⟨hB15.drew, hB25.drew⟩, gF hg ⟨⟨hB15.drew, hB25.drew⟩, gdF hg (pick_t (by simp [h2]) ⟨rfl, hFd⟩)⟩⟩))))
  · have hg : isB (.bool true) false = false := rfl
    refine gdF (by simp [isB, h1]) (gdF (by simp [isB, h1]) (pick_t (by simp [h1]) ?_))
    refine gdF hg (gdF hg (gdF hg (gdF hg (gF hg ⟨⟨hB15.drew, hB25.drew⟩, gF hg ⟨⟨hB15.drew, hB25.drew⟩, gdF hg (pick_t rfl ⟨rfl, hFd⟩)⟩⟩))))

def e0 : EntryD := ⟨0, 0, 0, 0, 0, 0, 0, 0, 0, 0, 0, 0, 0, 0, 0, 0, 0, 0, 0, 0, ⟨0, 0, 0, 0, 0, [], 0⟩⟩
theorem e0_toD : e0.toD = noEntry := by decide
theorem enc_pos (e : EntryD) : 0 < e.enc.length := by
  have := (wholeN_length e.gap).1
  have h : wholes [e.gap, e.client, e.seq] = wholeN e.gap ++ wholes [e.client, e.seq] := by simp [wholes]
  simp only [EntryD.enc, List.length_append, h]; omega

theorem cuts_c {w : World} {e : EntryD} {tv : Value} {cut : Int} {m : Nat} (he : e.ok) (hx : Sl w 1 tv e.task.tickets.length (ints e.task.tickets)) (hlt : 0 < e.task.tickets.length → ∀ i ∈ fp tv, i < w.heap.size) (hb : e.task.tickets.length ≤ 1000000000)
    (hm : m < 256) : CallF Try.prog 4 #[.agg (e.cells tv).toArray, .int .i64 cut, .int .u8 m] w fun r w' => r = .bool true ∧ Fr [] w w' := by
  obtain ⟨A, c, rfl, _⟩ := id hx
  refine C_furlonglaw10_CommandCuts_link ?_
  unfold C_furlonglaw10_CommandCuts
  refine box' (l := e.cells (.slice A _ c)) rfl ?_
  intro b1 w1 hb1 hB1 hF1 hs1
  refine (awake_c w1).use ?_
  rintro _ w2 ⟨rfl, hF2⟩
  have hF12 := hF1.t hF2
  refine notB (if_f rfl ?_)
  refine ldA_bk (hB1.fr hF2 (by simp)) (by simp [EntryD.cells]) ?_
  refine (encodeEntry_c (e := e) (tv := .slice A _ c) he (hx.fr1 hF12 (fun _ i _ => by simp)) (fun h0 i hi => by have := hlt h0 i hi; have := hF12.size; omega) hb).use ?_
  rintro _ w3 ⟨v3, rfl, hF3, hn3, ho3⟩
  refine ext0 (ext1 ?_)
  have hF13 := hF12.t hF3
  refine neq ?_
  by_cases h1 : e.err = 0
  case neg =>
    refine gdF (by simp [isB, h1]) (gdF (by simp [isB, h1]) (gdF (by simp [isB, h1]) (pick_t (by simp [h1]) (if_t rfl (neq ⟨?_, hF13⟩)))))
    simp [h1]
  rw [h1, if_pos rfl, if_pos rfl] at ho3
  obtain ⟨hok, hk⟩ := ok_toD he h1
  have henc := enc_toD he hk
  have hbl := enc_lt he hk
  have hlen := enc_len (e := e)
  have hpos := enc_pos e
  obtain ⟨A3, c3, rfl⟩ := ho3.len
  have hg : isB (.bool (decide (e.err ≠ 0))) false = true := by simp [isB, h1]
  refine gdT hg rfl (gdT hg (len rfl) (gdT hg (eql rfl) (pick_f (by simp [h1]) (if_f (decide_eq_false (by omega)) ?_))))
  refine lss ?_
  have fin : ∀ cut_1_24 w_25, (∃ d : Nat, d < e.enc.length ∧ cut_1_24 = Value.int .i64 d ∧ w_25 = w3) → (
     SlcS 1 (.slice A3 e.enc.length c3) none (some cut_1_24) none fun t45_26 =>
     CallF Try.prog 16 #[t45_26] w_25 fun t46_27 w_28 =>
     Ext t46_27 0 fun t47_29 =>
     Ext t46_27 1 fun t48_30 =>
     Ext t46_27 2 fun t49_31 =>
     Do Try.prog (Instr.alloc 34 true (.tuple #[])) w_28 fun t9_32 w_33 =>
     DoU Try.prog (Instr.storeAt 34 t9_32 t47_29) w_33 fun u_34 w_35 =>
     Do Try.prog (Instr.buildSlice 37 0 #[]) w_35 fun t51_36 w_37 =>
     Do Try.prog (Builtin.append_ #[37, 37] 37 #[t51_36, .slice A3 e.enc.length c3]) w_37 fun t53_38 w_39 =>
     Do Try.prog (Instr.buildSlice 37 1 #[(0, .int .u8 m)]) w_39 fun t55_40 w_41 =>
     Do Try.prog (Builtin.append_ #[37, 37] 37 #[t53_38, t55_40]) w_41 fun t56_42 w_43 =>
     CallF Try.prog 16 #[t56_42] w_43 fun t57_44 w_45 =>
     Ext t57_44 0 fun t58_46 =>
     Ext t57_44 1 fun t59_47 =>
     Ext t57_44 2 fun t60_48 =>
     Do Try.prog (Instr.alloc 34 true (.tuple #[])) w_45 fun y_12_49 w_50 =>
     DoU Try.prog (Instr.storeAt 34 y_12_49 t58_46) w_50 fun u_51 w_52 =>
     Bin Try.prog (At w_52) .eql 38 false true t49_31 (.int .i64 5) fun t62_53 =>
     GdP (isB t62_53 true) (fun R => R t48_30) fun t64_54 =>
     GdP (isB t62_53 true) (fun R => R cut_1_24) fun t65_55 =>
     GdP (isB t62_53 true) (fun R => Bin Try.prog (At w_52) .eql 3 false false t64_54 t65_55 R) fun t66_56 =>
     Pick t62_53 t66_56 (.bool false) fun t67_57 =>
     GdP (isB t67_57 true) (fun R => R t60_48) fun t69_58 =>
     GdP (isB t67_57 true) (fun R => Bin Try.prog (At w_52) .eql 38 false true t69_58 (.int .i64 7) R) fun t70_59 =>
     Pick t67_57 t70_59 (.bool false) fun t71_60 =>
     GdP (isB t71_60 true) (fun R => R t59_47) fun t73_61 =>
     GdP (isB t71_60 true) (fun R => R (.slice A3 e.enc.length c3)) fun t74_62 =>
     GdP (isB t71_60 true) (fun R => Len t74_62 R) fun t75_63 =>
     GdP (isB t71_60 true) (fun R => Bin Try.prog (At w_52) .eql 3 false false t73_61 t75_63 R) fun t76_64 =>
     Pick t71_60 t76_64 (.bool false) fun t77_65 =>
     GdP (isB t77_65 true) (fun R => LdA (At w_52) 27 y_12_49 R) fun t79_66 =>
     GdP (isB t77_65 true) (fun R => Bld Try.prog 34 [] R) fun t80_67 =>
     Gd (isB t77_65 true) (fun R => CallF Try.prog 15 #[t79_66, t80_67] w_52 R) w_52 fun t81_68 w_69 =>
     Pick t77_65 t81_68 (.bool false) fun t82_70 =>
     (t82_70 = .bool true ∧ Fr [] w w_69)) := by
    rintro _ w_25 ⟨d, hd, rfl, rfl⟩
    have s3 : Sl w_25 1 (.slice A3 e.enc.length c3) e.enc.length (bytes e.enc) := ho3.sl
    refine slcHi s3 ho3.cap (by omega) ?_
    intro v4 s4 hc4 hf4
    rw [Nat.mul_one, bytes_take] at s4
    have hl4 : (e.enc.take d).length = d := by rw [List.length_take]; omega
    rw [← hl4] at s4
    refine (decodeEntry_c (bs := e.enc.take d) ⟨by rw [hl4] at s4 ⊢; exact s4, hc4, fun b hb => hbl b (List.mem_of_mem_take hb), by omega⟩).use ?_
    rintro _ w5 ⟨cs5, F5, rfl, ha5, hn5, hF5⟩
    have hd5 : decW cEntry noEntry (e.enc.take d) = (noEntry, d, 5) := by rw [← henc]; exact decW_cut cEntry noEntry _ hok d (by rw [henc]; exact hd)
    rw [hd5] at ha5 ⊢
    have hcl5 : cs5.length = 27 := sEntry.len ha5
    refine ext0 (ext1 (ext2 ?_))
    refine alloc_n (n := 27) (by kernel_rfl) ?_
    intro b6 w6 z6 hz6 hb6 hB6 hF6 hs6
    refine store_all hB6 (by kernel_rfl) hz6 hcl5 (by omega) (sEntry.one ha5) ?_
    intro w7 hB7 hF7 hs7
    have hF37 : Fr [] w_25 w7 := (hF5.t hF6).trans hF7 (fun i hi => .inr (by simp at hi; have := hF5.size; omega))
    refine lit_new (vs := []) Try.underlying37 infoB rfl rfl rfl (by omega) (by simp) ?_
    intro v8 w8 hN8
    refine row_append (bs := []) hN8 (s3.fr1 (hF37.t hN8.fr) (fun _ i _ => by simp)) (by simp; omega) ?_
    intro v9 w9 hN9 _ _
    rw [List.nil_append] at hN9
    refine append1 hN9 Try.underlying37 infoB rfl rfl rfl (by omega) (by omega) ?_
    intro v10 w10 hN10
    have eb : bytes e.enc ++ [.int .u8 (m : Int)] = bytes (e.enc ++ [m]) := by simp [bytes]
    have el : e.enc.length + 1 = (e.enc ++ [m]).length := by simp
    rw [eb, el] at hN10
    refine (decodeEntry_c (bs := e.enc ++ [m]) ⟨hN10.own.sl, hN10.own.cap, fun b hb => ?_, by rw [← el]; omega⟩).use ?_
    · rcases List.mem_append.1 hb with h | h
      · exact hbl b h
      · rw [List.mem_singleton.1 h]; exact hm
    rintro _ w11 ⟨cs11, F11, rfl, ha11, hn11, hF11⟩
    have hd11 : decW cEntry noEntry (e.enc ++ [m]) = (noEntry, e.enc.length, 7) := by rw [← henc]; exact decW_more cEntry noEntry _ hok m
    rw [hd11] at ha11 ⊢
    obtain ⟨e', tv', rfl, hed, hok', hsl', hcap', hfp'⟩ := of_entry_rd ha11
    obtain ⟨A', c', rfl, _⟩ := id hsl'
    refine ext0 (ext1 (ext2 ?_))
    refine alloc_n (n := 27) (by kernel_rfl) ?_
    intro b12 w12 z12 hz12 hb12 hB12 hF12' hs12
    refine store_all hB12 (by kernel_rfl) hz12 (by simp [EntryD.cells]) (by omega) (by simp [EntryD.cells, Value.oneCell']) ?_
    intro w13 hB13 hF13' hs13
    have hF11_13 : Fr [] w11 w13 := hF12'.trans hF13' (fun i hi => .inr (by simp at hi; omega))
    have hF : Fr [] w w13 := (((hF13.t hF37).t hN10.fr).t hF11).t hF11_13
    refine eql (gdT rfl rfl (gdT rfl rfl (gdT rfl (eql rfl) (pick_t rfl ?_))))
    have ed : (decide ((d : Int) = d)) = true := by simp
    rw [ed]
    refine gdT rfl rfl (gdT rfl (eql rfl) (pick_t rfl ?_))
    refine gdT rfl rfl (gdT rfl rfl (gdT rfl (len rfl) (gdT rfl (eql rfl) (pick_t rfl ?_))))
    have ed2 : (decide ((e.enc.length : Int) = e.enc.length)) = true := by simp
    rw [ed2]
    refine gdT rfl (ldA_bk hB13 (by simp [EntryD.cells]) rfl) (gdT (v := .agg (e0.cells (.slice none 0 0)).toArray) rfl ⟨e0.cells (.slice none 0 0), by kernel_rfl, by kernel_rfl, rfl⟩ (gT rfl ?_))
    refine (sameEntry_c (e := e') (e' := e0) (tv := .slice A' _ c') (tv' := .slice none 0 0) (hsl'.fr1 hF11_13 (fun _ i _ => by simp)) ⟨none, 0, rfl, rfl, fun _ => ⟨rfl, rfl⟩, fun a h => by cases h⟩ ?_).use ?_
    · have : e'.task.tickets = [] := by
        have := congrArg (fun d : DEntry => d.2.2.2.2.2.2.1) hed
        simpa [EntryD.toD, TaskD.toD, noEntry] using this
      rw [this]; simp
    · rintro _ w14 ⟨rfl, hF14⟩
      rw [hed, e0_toD, decide_eq_true rfl]
      exact pick_t rfl ⟨rfl, hF.t hF14⟩
  by_cases hc : cut < 0
  · have hg : isB (.bool (decide (cut < 0))) false = false := by simp [isB, hc]
    refine gdF hg (gdF hg (gdF hg (gdF hg (pick_t (by simp [hc]) ⟨_, fin, if_t rfl (len (sub64 (by omega) ⟨e.enc.length - 1, by omega, by congr 1; omega, rfl⟩))⟩))))
  · have hg : isB (.bool (decide (cut < 0))) false = true := by simp [isB, hc]
    refine gdT hg rfl (gdT hg rfl (gdT hg (len rfl) (gdT hg (geq rfl) (pick_f (by simp [hc]) ⟨_, fin, ?_⟩))))
    refine if_p (fun h => ?_) (fun h => ?_)
    · exact len (sub64 (by omega) ⟨e.enc.length - 1, by omega, by congr 1; omega, rfl⟩)
    · exact ⟨cut.toNat, by omega, by congr 1; omega, rfl⟩
end Go.Proofs.Ytachignmofpngaa
