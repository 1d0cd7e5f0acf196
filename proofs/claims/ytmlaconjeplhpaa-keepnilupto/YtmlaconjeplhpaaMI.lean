/- The contract of (*keep.Keep).Put. The contract of the entries behind an index, as (*keep.Keep).behind yields them. The contract of (*keep.Keep).Reset. furlonglaw16.now: all that is kept, as it tells. furlongref16.Same and Last. furlongref16.Put and Reset. -/
import Derived.Test.YtmlaconjeplhpaaMH
set_option linter.unusedVariables false
set_option linter.unusedSimpArgs false
set_option maxRecDepth 20000
namespace Go.Proofs.Ytmlaconjeplhpaa
open Go Go.Vc
open St (Dsk All64 Blk pad four put4 halfN base hb walk eldest rootF openF putF rootL SInv encAll encRec)

def badPut (k : KD) (i t : Int) (n : Nat) : Prop := i ≤ k.base ∨ k.base + k.ents.length + 1 < i ∨ t < 0 ∨ 60000 < n
theorem kput_c {w0 w : World} {pk pd cp bnd z : Nat} {L : List KD} {Y : List Nat} (h : Kt w0 w pk pd cp bnd z L Y) (hb : bnd < 400) {i t : Int} {x : Value} {d : List Nat} (hz : z + d.length + 100 ≤ cp) (ht : I64 t) (hx : Sl w 1 x d.length (bytes d)) (hxd : 0 < d.length → ∀ i ∈ fp x, i ∈ Y ∨ i < w0.heap.size) (hdb : ∀ c ∈ d, c < 256) :
    CallF Try.prog 36 #[ptr pk, .int .i64 i, .int .i64 t, x] w fun r w' => Out w0 w w' Y ∧
      (badPut (lastL L) i t d.length ∧ r = .int .i64 1 ∧ Kt w0 w' pk pd cp (bnd + 1) (z + d.length + 100) L Y ∨ ¬ badPut (lastL L) i t d.length ∧ r = .int .i64 0 ∧ Kt w0 w' pk pd cp (bnd + 1) (z + d.length + 100) (L ++ [(lastL L).put (i - (lastL L).base - 1).toNat t d]) Y) := by
  obtain ⟨ps, bb, lv, tv, sv, ev, D, gen, life, at', safe, tail, whole, snap, list, k0, ks, F1, F2, h, rfl⟩ := h
  rw [h.last]
  have hsafe := h.safe'
  obtain ⟨hwf, hks⟩ := h.wfl
  have hkp := h.kp
  have hwb := hwf.b
  have hwl := hwf.entL
  have hcp := h.cp5.1
  refine C_keep_Keep_Put_link ?_
  unfold C_keep_Keep_Put
  obtain ⟨cells, G, hcap, hsl, hrows, hGF, _⟩ := list_open hkp.ent
  generalize hk : lastK k0 ks = k at *
  have bad : ∀ {w1 : World}, Fr [] w w1 → badPut k i t d.length → Out w0 w w1 Y ∧ (badPut k i t d.length ∧ Value.int .i64 1 = .int .i64 1 ∧ Kt w0 w1 pk pd cp (bnd + 1) (z + d.length + 100) ((k0 :: ks).drop safe) Y ∨ ¬ badPut k i t d.length ∧ Value.int .i64 1 = .int .i64 0 ∧ Kt w0 w1 pk pd cp (bnd + 1) (z + d.length + 100) ((k0 :: ks).drop safe ++ [k.put (i - k.base - 1).toNat t d]) Y) := fun f hb' =>
    ⟨.of f, .inl ⟨hb', rfl, ps, bb, lv, tv, sv, ev, D, gen, life, at', safe, tail, whole, snap, list, k0, ks, F1, F2, (h.fresh f (fun i hi => .inl hi)).up (by omega) (by omega) (by omega) hz, rfl⟩⟩
  refine ptr_eql und57 (if_f rfl (nilC (fad (ldC_bk hkp.blk rfl (leq ?_)))))
  have hdr : Fr [] w w.drew := Fr.drew [] w
  by_cases c1 : i ≤ k.base
  · have hf : isB (.bool (decide (i ≤ k.base))) false = false := by simp [isB]; omega
    refine gdF hf (gdF hf (gF hf (gdF hf (gdF hf (pick_t (by simp; omega) ?_)))))
    exact gdF (by simp [isB]) (gdF (by simp [isB]) (pick_t rfl (gdF (by simp [isB]) (gdF (by simp [isB]) (gdF (by simp [isB]) (pick_t rfl (if_t rfl (bad (Fr.refl _ _) (.inl c1))))))))) 
  have hf : isB (.bool (decide (i ≤ k.base))) false = true := by simp [isB]; omega
  refine gdT hf rfl (gdT hf rfl (gT hf ((last_c hkp.blk hsl (by omega) (by omega)).use ?_)))
  rintro _ w1 ⟨rfl, e1⟩
  rw [e1]
  refine gdT hf (add64 (by omega) rfl) (gdT hf (gtr rfl) (pick_f (by simp; omega) ?_))
  by_cases c2 : k.base + k.ents.length + 1 < i
  · have hf2 : isB (.bool (decide (k.base + (k.ents.length : Int) + 1 < i))) false = false := by simp [isB]; omega
    exact gdF hf2 (gdF hf2 (pick_t (by simp; omega) (gdF (by simp [isB]) (gdF (by simp [isB]) (gdF (by simp [isB]) (pick_t rfl (if_t rfl (bad hdr (.inr (.inl c2)))))))))) 
  have hf2 : isB (.bool (decide (k.base + (k.ents.length : Int) + 1 < i))) false = true := by simp [isB]; omega
  refine gdT hf2 rfl (gdT hf2 (lss rfl) (pick_f (by simp; omega) ?_))
  by_cases c3 : t < 0
  · have hf3 : isB (.bool (decide (t < 0))) false = false := by simp [isB]; omega
    exact gdF hf3 (gdF hf3 (gdF hf3 (pick_t (by simp; omega) (if_t rfl (bad hdr (.inr (.inr (.inl c3))))))))
  have hf3 : isB (.bool (decide (t < 0))) false = true := by simp [isB]; omega
  refine gdT hf3 rfl (gdT hf3 (hx.lenV rfl) (gdT hf3 (gtr rfl) (pick_f (by simp; omega) (if_p (fun c4 => bad hdr (.inr (.inr (.inr (by omega))))) (fun c4 => ?_)))))
  have hgood : ¬ badPut k i t d.length := by unfold badPut; omega
  obtain ⟨m, hm⟩ : ∃ m : Nat, i = k.base + m + 1 := ⟨(i - k.base - 1).toNat, by omega⟩
  have hml : m ≤ k.ents.length := by omega
  have hmn : (i - k.base - 1).toNat = m := by omega
  rw [hmn]
  refine litI [2, i, t] rfl rfl (by omega) ?_
  intro y1 w2 hy1 hF2 hn1
  refine (ints_c (w0 := w2) (bs := []) (row_nil w2) hy1 (by intro x hx; simp at hx; rcases hx with rfl | rfl | rfl; unfold I64; omega; unfold I64; omega; exact ht) (by simp) (by simp)).use ?_
  rintro b3 w3 ⟨h3, _⟩
  rw [List.nil_append] at h3
  have hF03 : Fr [] w w3 := (hdr.t hF2).t h3.fr
  have hwl3 := wholes_length [2, i, t]
  simp only [List.length_cons, List.length_nil] at hwl3
  refine (layBytes_r h3 (hx.fr hF03 (fun i _ => by simp)) (by omega) (by omega)).use ?_
  rintro b4 w4 ⟨h4, hF4⟩
  have hF04 := hF03.t hF4
  have hk4 := h.fresh hF04 (Y2 := Y) (fun i hi => .inl hi)
  have htk := h.tk
  have hst : Stp k (putB i t d) (k.put m t d) := by rw [hm]; exact .put _ _ _ _ hml ht (by omega) hdb
  have hpl := putB_length i t d
  refine (kapp_c hk4 (p := putB i t d) h4.own.sl hst.lt.1 (by omega) (by omega)).use ?_
  rintro _ w5 ⟨rfl, D', at2, t2, lv', tv', hsk5, hinv5, hlen5, hL5, hF5, hsub5⟩
  refine neq (if_f (by simp) ?_)
  have hB5 := hk4.kp.blk.fr hF5 hk4.kx
  have hlt5 := hsk5.lt
  have hpl4 := hk4.kp.blk.lt
  have hkx5 : pk ∉ skX ps pd bb lv' tv' := fun hm => (hsub5 _ hm).elim hk4.kx (fun h' => by omega)
  have hF05 : Fr (skX ps pd bb lv tv) w w5 := (hF04.mono (fun i hi => by simp at hi)).trans hF5 (fun i hi => .inl hi)
  rw [hk] at hB5
  refine nilC (fad (ldC_bk hB5 rfl (sub64 (by omega) (sub64 (by omega) ?_))))
  rw [show i - k.base - 1 = (m : Int) by omega]
  have hB5d := hB5.drew
  refine ⟨fun w' => Bk w' pk 137 [ptr ps, .int .i64 k.term, .int .i64 k.vote, .int .i64 k.base, .int .i64 k.bterm, sv, ev], hB5d, ?_⟩
  have hent5 : sEns.rd w5 [ev] k.ents F2 := sEns.fr hkp.ent hF05 (fun i hi hm => (h.d12 i (.inr hm)).2 hi)
  obtain ⟨cells5, G5, hcap5, hsl5, hrows5, hGF5, _⟩ := list_open hent5
  have hF5d : Fr [] w5 w5.drew := Fr.drew [] w5
  refine nilC (fad (ldC_S (fun w' h => h) rfl ?_))
  refine slc3 (hsl5.fr hF5d (fun i _ => by simp)) hcap5 hml ?_
  intro A hsA hfA
  have hx5 : Sl w5 1 x d.length (bytes d) := hx.fr1 hF05 (fun h0 j hj hm => (hxd h0 j hj).elim (h.dis j (.inr hm)) (fun h' => by have := h.new j (.inr hm); omega))
  refine row_append (row_nil w5.drew) (hx5.fr hF5d (fun i _ => by simp)) (by simp; omega) ?_
  intro q w6 hN6 _ _
  rw [List.nil_append] at hN6
  have hB6 := hB5d.fr hN6.fr (by simp)
  refine ⟨hB6, bldE (by obtain ⟨A, c, e⟩ := hN6.own.len; exact ⟨A, _, c, e⟩) ?_⟩
  obtain ⟨Fq, hrq, hFq⟩ := own_sl hN6.own
  have hrd : sEn.rd w6 [.int .i64 t, q] (t, d) ([] ++ Fq) := ⟨[.int .i64 t], [q], [], Fq, rfl, rfl, ⟨rfl, rfl, ht⟩, hrq⟩
  refine lit1 Try.underlying135 infoE (by decide) (show (Value.agg (List.toArray [.int .i64 t, q])).cells.toList = [.int .i64 t, q] from rfl) rfl ?_
  intro b8 w8 hb8 hB8 hF8 _
  refine ⟨hB6.fr hF8 (by simp), ?_⟩
  refine append_full Try.underlying135 infoE rfl (by omega) ((hsA.fr hN6.fr (fun i _ => by simp)).fr hF8 (fun i _ => by simp)) (Bk.slN hB8 rfl 1) (fun u hu => sEn.one hrd u hu) (by omega) (by omega) (by omega) ?_
  intro ev2 w9 hN9
  have hB9 := (hB6.fr hF8 (by simp)).fr hN9.fr (by simp)
  refine ⟨hB9, ?_⟩
  refine nilC (fad (store' hB9 (by kernel_rfl) (by simp) (by obtain ⟨A, c, rfl⟩ := hN9.own.len; rfl) ?_))
  intro w10 hB10 hF10 _
  have z5 := hF5.size
  have z04 := hF04.size
  have z6 : w5.heap.size ≤ w6.heap.size := hN6.fr.size
  have z8 := hF8.size
  have hnp : ∀ i ∈ fp ev2, w8.heap.size ≤ i := hN9.new
  have f69 : Fr [] w6 w9 := hF8.t hN9.fr
  have f610 : Fr [pk] w6 w10 := (f69.mono (fun i hi => by simp at hi)).t hF10
  have f59 : Fr [] w5 w9 := (hF5d.t hN6.fr).t f69
  have f510 : Fr [pk] w5 w10 := (f59.mono (fun i hi => by simp at hi)).t hF10
  obtain ⟨G', hr', hG'⟩ := rows_take m hrows5
  have hpk5 := hB5.lt
  have hlF2 := sEns.lt hent5
  have hGp : ∀ i ∈ G', i ∈ F2 := fun i hi => hGF5 i (hG' i hi)
  have hFqn : ∀ i ∈ Fq, w5.heap.size ≤ i := fun i hi => hN6.new i (hFq i hi)
  have hr10 := rows_fr sEn f510 hr' (fun i hi hm => (h.d12 pk (.inl rfl)).2 (by simp at hm; subst hm; exact hGp i hi))
  have hrd10 := sEn.fr hrd f610 (fun i hi hm => by have := hFqn i (by simpa using hi); simp at hm; omega)
  have hl1 : (k.ents.take m ++ [(t, d)]).length = m + 1 := by rw [List.length_append, List.length_take]; simp; omega
  have hent10 : sEns.rd w10 [ev2] (k.put m t d).ents (fp ev2 ++ (G' ++ ([] ++ Fq))) := by
    refine ⟨ev2, _, _, rfl, hN9.own.cap, ?_, rows_snoc sEn hrd10 hr10, ?_⟩
    · show Sl w10 2 ev2 (k.ents.take m ++ [(t, d)]).length _
      rw [hl1]
      exact hN9.own.sl.fr hF10 (fun i hi hm => by have := hnp i hi; simp at hm; omega)
    · show _ = (if (k.ents.take m ++ [(t, d)]) = [] then [] else fp ev2) ++ _
      rw [if_neg (by simp)]
  have hFn : ∀ i ∈ fp ev2 ++ (G' ++ ([] ++ Fq)), i ∈ F2 ∨ w5.heap.size ≤ i := by
    intro i hi
    simp only [List.mem_append, List.nil_append] at hi
    rcases hi with hi | hi | hi
    · exact .inr (by have := hnp i hi; omega)
    · exact .inl (hGp i hi)
    · exact .inr (hFqn i hi)
  have hF010 : Fr (pk :: skX ps pd bb lv tv) w w10 := (hF05.mono (fun i hi => .inl (by simp [hi]))).trans f510 (fun i hi => .inl (by simp at hi; simp [hi]))
  have hz2 := ksz_put k m t d
  have hzn : ksz (k.put m t d) ≤ z + d.length + 100 := by omega
  refine ⟨h.out hF010, .inr ⟨hgood, rfl, ps, bb, lv', tv', sv, ev2, D', gen, life, at2, safe, t2, whole, snap, _, k0, ks ++ [k.put m t d], F1, _, h.grow (p := putB i t d) hb ⟨(by simpa using hB10 : Bk w10 pk 137 [ptr ps, .int .i64 k.term, .int .i64 k.vote, .int .i64 k.base, .int .i64 k.bterm, sv, ev2]), sSl.fr hkp.snp hF010 (fun i hi hm => (h.d12 i (List.mem_cons.1 hm)).1 hi), hent10, hkp.i⟩ (hsk5.fr f510 (fun i hi hm => hkx5 (by simp at hm; subst hm; exact hi))) hinv5 hlen5 hL5 (by rw [hk]; exact hst) (hwf.put ht (by omega) hdb (by omega)) hzn (by omega) hz (by omega) hF010 (fun i hi => (hsub5 i hi).imp id (fun h' => by omega)) (fun i hi => (hFn i hi).imp id (fun h' => ⟨by omega, fun hm => by have := hlt5 i hm; omega⟩)), ?_⟩⟩
  rw [← List.cons_append, List.drop_append_of_le_length (by simp; omega)]
end Go.Proofs.Ytmlaconjeplhpaa

set_option linter.unusedVariables false
set_option linter.unusedSimpArgs false
set_option maxRecDepth 20000
namespace Go.Proofs.Ytmlaconjeplhpaa
open Go Go.Vc

theorem behind1_c {Y : World → List (Int × List Nat) → Prop} {y : Value} {w : World} {px py pk ps : Nat} {sv ev : Value} {k : KD} {idx : Int} {cells : List Value} {G : List Nat}
    (hb : 0 ≤ k.base ∧ k.base ≤ 1152921504606846976) (hn : k.ents.length ≤ 1000000) (hi : k.base < idx ∧ idx ≤ 1152921504606846976)
    (hd : ∀ w d, Y w d → Bk w px 57 [ptr pk] ∧ Bk w py 3 [.int .i64 idx] ∧ Bk w pk 137 (kCells ps k sv ev) ∧ Sl w 2 ev k.ents.length cells ∧ sEn.rows w k.ents cells G)
    (hf : ∀ w w' d, Y w d → Fr [] w w' → Y w' d)
    (hy : ∀ (w : World) (d : List (Int × List Nat)) (a : Int × List Nat) (cs : List Value) (F : List Nat), Y w d → sEn.rd w cs a F → (∀ i ∈ F, i ∈ G) → d.length ≤ 1000000 → ∀ (w1 : World) (b : Nat) (T : TypeId) (l : List Value), Fr [] w w1 → w.heap.size ≤ b → Bk w1 b T l →
      CallV Try.prog y #[.agg cs.toArray] w1 fun r w' => r = .bool true ∧ Y w' (d ++ [a]) ∧ Bk w' b T l)
    (h : Y w []) : CallF Try.prog 108 #[y, ptr px, ptr py] w fun r w' => r = .tuple #[] ∧ Y w' (k.ents.drop (idx - k.base).toNat) := by
  refine C_keep_Keep_behind_1_link ?_
  unfold C_keep_Keep_behind_1
  obtain ⟨x0, y0, k0, s0, r0⟩ := hd _ _ h
  obtain ⟨n, hne⟩ : ∃ n : Nat, idx = k.base + n := ⟨(idx - k.base).toNat, by omega⟩
  have hn2 : (idx - k.base).toNat = n := by omega
  rw [hn2]
  refine ldC_bk x0 rfl (nilC (fad (ldC_bk k0 rfl (s0.lenV ?_))))
  refine ⟨fun m i w' => ∃ j : Nat, j + m = k.ents.length ∧ i = .int .i64 j ∧ Y w' ((k.ents.take j).drop n), k.ents.length, ⟨0, by omega, rfl, by simpa using h⟩, ?_⟩
  rintro m _ w2 ⟨j, hj, rfl, hY⟩
  refine lss (if_p (fun hlt => ?_) (fun hge => ?_))
  case refine_2 =>
    rw [List.take_of_length_le (by omega)] at hY
    exact ⟨rfl, hY⟩
  have hjl : j < k.ents.length := by omega
  obtain ⟨x2, y2, k2, s2, r2⟩ := hd _ _ hY
  refine ixN s2 hjl ?_
  obtain ⟨Ga, hrd, hGa⟩ := rows_get sEn r2 j hjl
  have h2z : sEn.size = 2 := rfl
  rw [h2z] at hrd
  obtain ⟨cs, hcs⟩ : ∃ cs, List.take 2 (List.drop (j * 2) cells) = cs := ⟨_, rfl⟩
  rw [hcs] at hrd ⊢
  have hlen : cs.length = 2 := sEn.len hrd
  refine alloc_n (n := 2) (by kernel_rfl) ?_
  intro be w3 l3 hl3 hbe hB3 hF3 hs3
  refine store_all (n := 2) (vs := cs) hB3 (by kernel_rfl) hl3 hlen (by omega) (sEn.one hrd) ?_
  intro w4 hB4 hF4 hs4
  have hF24 : Fr [] w2 w4.drew := (hF3.trans hF4 (fun i hi => .inr (by simp at hi; omega))).t (Fr.drew [] w4)
  obtain ⟨x4, y4, k4, s4, r4⟩ := hd _ _ (hf _ _ _ hY hF24)
  refine ⟨fun w' => Bk w' px 57 [ptr pk] ∧ Bk w' py 3 [.int .i64 idx] ∧ Bk w' pk 137 (kCells ps k sv ev) ∧ Bk w' be 141 cs, ⟨x4, y4, k4, hB4.drew⟩, ?_⟩
  refine ldC_S (fun w' h => h.1) rfl (nilC (fad (ldC_S (fun w' h => h.2.2.1) rfl (add64 (by omega) (add64 (by omega) (ldC_S (fun w' h => h.2.1) rfl (gtr ?_)))))))
  have htk : k.ents.take (j + 1) = k.ents.take j ++ [k.ents[j]] := List.take_succ_eq_append_getElem hjl
  by_cases c : idx < k.base + 1 + j
  · have ht : isB (.bool (decide (idx < k.base + 1 + (j : Int)))) true = true := by simp [isB]; omega
    refine gdT ht rfl (gdT ht (ldA_S (l := cs) (fun w' h => h.2.2.2) (by omega) rfl) (gT ht ?_))
    have e2 : List.take 2 (List.drop 0 cs) = cs := by rw [List.drop_zero]; exact List.take_of_length_le (by omega)
    rw [e2]
    refine CallV.mono (hy w2 _ _ cs Ga hY hrd hGa (by simp only [List.length_drop, List.length_take]; omega) w4.drew be _ _ hF24 (by omega) hB4.drew) ?_
    rintro _ w5 ⟨rfl, hY5, hB5⟩
    obtain ⟨x5, y5, k5, s5, r5⟩ := hd _ _ hY5
    refine ⟨⟨x5, y5, k5, hB5⟩, gdT ht (notB rfl) (pick_t (by simp; omega) (if_f rfl ?_))⟩
    refine add64 (by omega) ⟨m - 1, by omega, j + 1, by omega, by congr 1, ?_⟩
    rw [htk, List.drop_append_of_le_length (by rw [List.length_take]; omega)]
    exact hY5
  · have ht : isB (.bool (decide (idx < k.base + 1 + (j : Int)))) true = false := by simp [isB]; omega
    refine gdF ht (gdF ht (gF ht ⟨⟨x4, y4, k4, hB4.drew⟩, gdF ht (pick_f (by simp; omega) (if_f rfl ?_))⟩))
    refine add64 (by omega) ⟨m - 1, by omega, j + 1, by omega, by congr 1, ?_⟩
    have e1 : (k.ents.take (j + 1)).drop n = (k.ents.take j).drop n := by
      rw [List.drop_eq_nil_of_le (by rw [List.length_take]; omega), List.drop_eq_nil_of_le (by rw [List.length_take]; omega)]
    rw [e1]
    exact hf _ _ _ hY hF24
end Go.Proofs.Ytmlaconjeplhpaa

set_option linter.unusedVariables false
set_option linter.unusedSimpArgs false
set_option maxRecDepth 20000
namespace Go.Proofs.Ytmlaconjeplhpaa
open Go Go.Vc
open St (Dsk All64 Blk pad four put4 halfN base hb walk eldest rootF openF putF rootL SInv encAll encRec)

theorem own_push {α : Type} {S : Shape α} {T : TypeId} {w : World} {v : Value} {l : List α} {LT : TypeId} {z u : Value} {bytes : Nat} {a : α} {cells cs : List Value} {F G : List Nat} {S1 : World → Prop} {k : Value → World → Prop} (h1 : Own w T S.size v l.length cells) (h2 : S.rows w l cells G) (hGv : ∀ i ∈ G, i ∉ fp v)
    (hS0 : 0 < S.size) (hS1 : S.size ≤ 1000) (hb1 : bytes ≤ 1000) (hl : l.length ≤ 100000000) (ht : Try.prog.underlying LT = some (.slice T)) (hinf : (Try.prog.info? T).map (fun i => (i.zero, i.size, i.bytes)) = some (some z, S.size, bytes)) (hz : z.cells.size = S.size)
    (ha : S.rd w cs a F) (hF : ∀ i ∈ F, i ∉ fp v) (hu : u.cells.toList = cs) (hc : ∀ w', Fr (fp v) w w' → S1 w')
    (hk : ∀ v' w', Own w' T S.size v' (l ++ [a]).length (cells ++ cs) → S.rows w' (l ++ [a]) (cells ++ cs) (G ++ F) → Fr (fp v) w w' → (∀ i ∈ fp v', i ∈ fp v ∨ w.heap.size ≤ i) → k v' w') :
    Do Try.prog (Instr.buildSlice LT 1 #[(0, u)]) w fun t13 w11 => S1 w11 ∧ Do Try.prog (Builtin.append_ #[LT, LT] LT #[v, t13]) w11 k := by
  refine lit1 ht hinf hS1 hu (S.len ha) ?_
  intro b wb hb hBk hfb hzb
  refine ⟨hc wb (hfb.mono (fun i hi => by simp at hi)), ?_⟩
  refine do_append ht hinf hz hS0 (h1.fr hfb (fun i _ => by simp)) (Bk.slN hBk (by rw [S.len ha]; omega) 1) (S.one ha) ?_ (by omega) ?_
  · have : (l.length + 1) * bytes ≤ 100000001 * 1000 := Nat.mul_le_mul (by omega) hb1
    omega
  intro v' wc ho hfc hsub
  have fc : Fr (fp v) w wc := (hfb.mono (fun i hi => by simp at hi)).t hfc
  exact hk v' wc (by rw [List.length_append]; exact ho) (rows_snoc S (S.fr ha fc hF) (rows_fr S fc h2 hGv)) fc (fun i hi => (hsub i hi).imp id (fun h => by omega))
theorem bldK {a b c d : Int} {p : Nat} {q : Value} {k : Value → Prop} (hq : ∃ A n c, q = .slice A n c) (h : k (.agg (List.toArray [ptr p, .int .i64 a, .int .i64 b, .int .i64 c, .int .i64 d, q, .slice none 0 0]))) :
    Bld Try.prog 137 [(0, ptr p), (1, .int .i64 a), (2, .int .i64 b), (3, .int .i64 c), (4, .int .i64 d), (5, q)] k := by
  obtain ⟨A, n, c', rfl⟩ := hq
  exact ⟨[ptr p, .int .i64 a, .int .i64 b, .int .i64 c, .int .i64 d, .slice A n c', .slice none 0 0], by kernel_rfl, by kernel_rfl, h⟩
theorem ix2_ex {S : World → Prop} {w : World} {n i : Nat} {κ : IntKind} {v u : Value} {cells : List Value} (hs : ∀ w', S w' → Sl w' 2 v n cells) (h0 : Sl w 2 v n cells) (hi : i < n) (hv : cells[i * 2]? = some u) :
    ∃ a b, IAdS 2 v (.int κ i) (fun x => x = .pointer (some a)) ∧ FAd 0 (.pointer (some a)) (fun x => x = .pointer (some b)) ∧ LdC S (.pointer (some b)) (fun x => x = u) := by
  obtain ⟨A, c, rfl, hl, hn, hc⟩ := h0
  cases A with
  | none => have := (hn rfl).1; omega
  | some b =>
    refine ⟨b.add (i * 2), b.add (i * 2), ⟨by omega, by omega, by simp⟩, ?_, ?_⟩
    · show Value.pointer (some ((b.add (i * 2)).add 0)) = _
      rw [Addr.add_zero']
    · refine ⟨u, fun w' e => ?_, rfl⟩
      obtain ⟨A', c', e', _, _, hc'⟩ := hs w' e
      cases e'
      exact hc' b rfl _ u hv
def resetE (k : KD) (i t : Int) : List (Int × List Nat) := if i ≤ k.base + k.ents.length ∧ (k.ents.getD (i - k.base - 1).toNat (0, [])).1 = t then k.ents.drop (i - k.base).toNat else []
def KD.reset (k : KD) (i t : Int) (d : List Nat) : KD := { k with base := i, bterm := t, snap := d, ents := resetE k i t }
def badReset (k : KD) (i t : Int) : Prop := i ≤ k.base ∨ 1152921504606846976 < i ∨ t < 0
theorem sum_drop_le (l : List (Int × List Nat)) (m : Nat) : ((l.drop m).map fun e => e.2.length + 100).sum ≤ (l.map fun e => e.2.length + 100).sum := by
  conv => rhs; rw [← List.take_append_drop m l]
  rw [List.map_append, List.sum_append]
  omega
theorem ksz_reset (k : KD) (i t : Int) (d : List Nat) : ksz (k.reset i t d) ≤ ksz k + d.length := by
  have := sum_drop_le k.ents (i - k.base).toNat
  unfold ksz KD.reset resetE
  dsimp only
  split
  · omega
  · simp only [List.map_nil, List.sum_nil]; omega
theorem WfK.reset {k : KD} (h : WfK k) {i t : Int} {d : List Nat} (hb : ¬ badReset k i t) (ht : I64 t) (hd : ∀ c ∈ d, c < 256) (hz : ksz (k.reset i t d) ≤ 500000) : WfK (k.reset i t d) := by
  have hbb := h.b
  unfold badReset at hb
  refine ⟨⟨h.i.1, h.i.2.1, by unfold I64 KD.reset; dsimp only; omega, ht⟩, by unfold KD.reset; dsimp only; omega, hd, fun e he => ?_, hz⟩
  unfold KD.reset resetE at he
  dsimp only at he
  split at he
  · exact h.e e (List.mem_of_mem_drop he)
  · cases he
theorem leave_one {w : World} {ds : List Nat} {k : World → Prop} (h : (ds = [] ∧ k w) ∨ ∃ D, ds = [D] ∧ w.heap[D]? = some (.deferred (some [])) ∧ k (setO w D (.deferred none))) : leave ds w k := by
  rcases h with ⟨rfl, h⟩ | ⟨D, rfl, h1, h2⟩
  · exact h
  · exact ⟨h1, h2⟩
/-- A keep that is being made in the place of another. -/
structure Rs (w w' : World) (bn pn ps : Nat) (k : KD) (i t : Int) (sv : Value) (d : List Nat) : Prop where
  fr : Fr [] w w'
  bb : Bk w' bn 57 [ptr pn]
  own : Own w' 5 1 sv d.length (bytes d)
  n1 : w.heap.size ≤ bn
  n2 : w.heap.size ≤ pn
  n3 : ∀ i ∈ fp sv, w.heap.size ≤ i
  ne : bn ≠ pn
  s1 : bn ∉ fp sv
  s2 : pn ∉ fp sv
theorem Rs.step {w w' w2 : World} {bn pn ps : Nat} {k : KD} {i t : Int} {sv : Value} {d X : List Nat} (h : Rs w w' bn pn ps k i t sv d) (f : Fr X w' w2) (h1 : bn ∉ X) (h2 : ∀ i ∈ fp sv, i ∉ X) (h3 : ∀ i ∈ X, w.heap.size ≤ i) : Rs w w2 bn pn ps k i t sv d :=
  { h with fr := h.fr.trans f (fun i hi => .inr (h3 i hi)), bb := h.bb.fr f h1, own := h.own.fr f h2 }
def rsCells (ps : Nat) (k : KD) (i t : Int) (sv ev : Value) : List Value := [ptr ps, .int .i64 k.term, .int .i64 k.vote, .int .i64 i, .int .i64 t, sv, ev]
theorem kreset_c {w0 w : World} {pk pd cp bnd z : Nat} {L : List KD} {Y : List Nat} (h : Kt w0 w pk pd cp bnd z L Y) (hb : bnd < 400) {i t : Int} {x : Value} {d : List Nat} (hz : z + d.length + 100 ≤ cp) (hi : I64 i) (ht : I64 t) (hx : Sl w 1 x d.length (bytes d)) (hdb : ∀ c ∈ d, c < 256) :
    CallF Try.prog 45 #[ptr pk, .int .i64 i, .int .i64 t, x] w fun r w' => Out w0 w w' Y ∧
      (badReset (lastL L) i t ∧ r = .int .i64 1 ∧ Kt w0 w' pk pd cp (bnd + 1) (z + d.length + 100) L Y ∨
       ¬ badReset (lastL L) i t ∧ 262144 < d.length ∧ r = .int .i64 3 ∧ Kt w0 w' pk pd cp (bnd + 1) (z + d.length + 100) L Y ∨
       ¬ badReset (lastL L) i t ∧ d.length ≤ 262144 ∧ r = .int .i64 0 ∧ Kt w0 w' pk pd cp (bnd + 1) (z + d.length + 100) [(lastL L).reset i t d] Y) := by
  obtain ⟨ps, bb, lv, tv, sv, ev, D, gen, life, at', safe, tail, whole, snap, list, k0, ks, F1, F2, h, rfl⟩ := h
  rw [h.last]
  have hsafe := h.safe'
  obtain ⟨hwf, hks⟩ := h.wfl
  have hkp := h.kp
  have hwb := hwf.b
  have hwl := hwf.entL
  have hcp := h.cp5.1
  refine C_keep_Keep_Reset_link ?_
  unfold C_keep_Keep_Reset
  obtain ⟨cells, G, hcap, hsl, hrows, hGF, _⟩ := list_open hkp.ent
  generalize hk : lastK k0 ks = k at *
  have hup : Kt w0 w pk pd cp (bnd + 1) (z + d.length + 100) ((k0 :: ks).drop safe) Y := ⟨ps, bb, lv, tv, sv, ev, D, gen, life, at', safe, tail, whole, snap, list, k0, ks, F1, F2, h.up (by omega) (by omega) (by omega) hz, rfl⟩
  refine ptr_eql und57 (if_f rfl (nilC (fad (ldC_bk hkp.blk rfl (leq ?_)))))
  by_cases c1 : i ≤ k.base
  · have hf : isB (.bool (decide (i ≤ k.base))) false = false := by simp [isB]; omega
    refine gdF hf (gdF hf (pick_t (by simp; omega) (gdF (by simp [isB]) (gdF (by simp [isB]) (pick_t rfl (if_t rfl ⟨.of (Fr.refl _ _), .inl ⟨.inl c1, rfl, hup⟩⟩))))))
  have hf : isB (.bool (decide (i ≤ k.base))) false = true := by simp [isB]; omega
  refine gdT hf rfl (gdT hf (gtr rfl) (pick_f (by simp; omega) ?_))
  by_cases c2 : 1152921504606846976 < i
  · have hf2 : isB (.bool (decide (1152921504606846976 < i))) false = false := by simp [isB]; omega
    refine gdF hf2 (gdF hf2 (pick_t (by simp; omega) (if_t rfl ⟨.of (Fr.refl _ _), .inl ⟨.inr (.inl c2), rfl, hup⟩⟩)))
  have hf2 : isB (.bool (decide (1152921504606846976 < i))) false = true := by simp [isB]; omega
  refine gdT hf2 rfl (gdT hf2 (lss rfl) (pick_f (by simp; omega) (if_p (fun c3 => ⟨.of (Fr.refl _ _), .inl ⟨.inr (.inr c3), rfl, hup⟩⟩) (fun c3 => ?_))))
  have hgood : ¬ badReset k i t := by unfold badReset; omega
  refine hx.lenV (gtr (if_p (fun c4 => ⟨.of (Fr.refl _ _), .inr (.inl ⟨hgood, by omega, rfl, hup⟩)⟩) (fun c4 => ?_)))
  refine ⟨fun n w' => ∃ bn pn sv2, n = ptr bn ∧ Bk w' pn 137 (rsCells ps k i t sv2 (.slice none 0 0)) ∧ Rs w w' bn pn ps k i t sv2 d, ?_, ?_⟩
  case refine_2 =>
    have hd0 := Fr.drew [] w
    refine ⟨fun w' => Bk w' pk 137 [ptr ps, .int .i64 k.term, .int .i64 k.vote, .int .i64 k.base, .int .i64 k.bterm, sv, ev], hkp.blk.drew, ?_⟩
    refine nilC (fad (ldC_S (fun w' h => h) rfl (nilC (fad (ldC_S (fun w' h => h) rfl (nilC (fad (ldC_S (fun w' h => h) rfl ⟨?_, ?_⟩))))))))
    · refine row_append (row_nil w.drew) (hx.fr hd0 (fun i _ => by simp)) (by simp; omega) ?_
      intro sv2 w2 hN _ _
      rw [List.nil_append] at hN
      have hB2 := hkp.blk.drew.fr hN.fr (by simp)
      have hlt := hN.own.lt
      have z2 := hN.fr.size
      have hone : sv2.oneCell' = true := by obtain ⟨A, c, rfl⟩ := hN.own.len; rfl
      refine ⟨hB2, bldK (by obtain ⟨A, c, e⟩ := hN.own.len; exact ⟨A, _, c, e⟩) ⟨?_, ?_⟩⟩
      · refine box' (l := rsCells ps k i t sv2 (.slice none 0 0)) rfl ?_
        intro pn w3 hpn hB3 hF3 hs3
        refine ⟨hB2.fr hF3 (by simp), ?_⟩
        refine alloc_n (n := 1) (by kernel_rfl) ?_
        intro bn w4 l4 hl4 hbn hB4 hF4 hs4
        refine ⟨(hB2.fr hF3 (by simp)).fr hF4 (by simp), ?_⟩
        refine store' hB4 (by kernel_rfl) (by omega) rfl ?_
        intro w5 hB5 hF5 hs5
        obtain ⟨c0, rfl⟩ : ∃ c, l4 = [c] := List.length_eq_one_iff.1 hl4
        have f25 : Fr [] w2 w5 := (hF3.t hF4).trans hF5 (fun i hi => .inr (by simp at hi; omega))
        refine ⟨bn, pn, sv2, rfl, (hB3.fr hF4 (by simp)).fr hF5 (by simp; omega), ⟨(hd0.t hN.fr).t f25, by simpa using hB5, hN.own.fr f25 (fun i _ => by simp), by have := hN.fr.size; have : w.drew.heap.size = w.heap.size := rfl; omega, by have := hN.fr.size; have : w.drew.heap.size = w.heap.size := rfl; omega, hN.new, by omega, fun hm => by have := hlt _ hm; omega, fun hm => by have := hlt _ hm; omega⟩⟩
      · refine alloc_n (n := 1) (by kernel_rfl) ?_
        intro bn w4 l4 hl4 hbn hB4 hF4 hs4
        refine ⟨hB2.fr hF4 (by simp), ?_⟩
        refine box' (l := rsCells ps k i t sv2 (.slice none 0 0)) rfl ?_
        intro pn w3 hpn hB3 hF3 hs3
        refine ⟨(hB2.fr hF4 (by simp)).fr hF3 (by simp), ?_⟩
        refine store' (hB4.fr hF3 (by simp)) (by kernel_rfl) (by omega) rfl ?_
        intro w5 hB5 hF5 hs5
        obtain ⟨c0, rfl⟩ : ∃ c, l4 = [c] := List.length_eq_one_iff.1 hl4
        have f25 : Fr [] w2 w5 := (hF4.t hF3).trans hF5 (fun i hi => .inr (by simp at hi; omega))
        refine ⟨bn, pn, sv2, rfl, hB3.fr hF5 (by simp; omega), ⟨(hd0.t hN.fr).t f25, by simpa using hB5, hN.own.fr f25 (fun i _ => by simp), by have := hN.fr.size; have : w.drew.heap.size = w.heap.size := rfl; omega, by have := hN.fr.size; have : w.drew.heap.size = w.heap.size := rfl; omega, hN.new, by omega, fun hm => by have := hlt _ hm; omega, fun hm => by have := hlt _ hm; omega⟩⟩
    · refine alloc_n (n := 1) (by kernel_rfl) ?_
      intro bn w4 l4 hl4 hbn hB4 hF4 hs4
      refine ⟨hkp.blk.drew.fr hF4 (by simp), ?_⟩
      refine row_append (row_nil w4) ((hx.fr hd0 (fun i _ => by simp)).fr hF4 (fun i _ => by simp)) (by simp; omega) ?_
      intro sv2 w2 hN _ _
      rw [List.nil_append] at hN
      have hlt := hN.own.lt
      have z2 := hN.fr.size
      refine ⟨(hkp.blk.drew.fr hF4 (by simp)).fr hN.fr (by simp), bldK (by obtain ⟨A, c, e⟩ := hN.own.len; exact ⟨A, _, c, e⟩) ?_⟩
      refine box' (l := rsCells ps k i t sv2 (.slice none 0 0)) rfl ?_
      intro pn w3 hpn hB3 hF3 hs3
      refine ⟨((hkp.blk.drew.fr hF4 (by simp)).fr hN.fr (by simp)).fr hF3 (by simp), ?_⟩
      refine store' ((hB4.fr hN.fr (by simp)).fr hF3 (by simp)) (by kernel_rfl) (by omega) rfl ?_
      intro w5 hB5 hF5 hs5
      obtain ⟨c0, rfl⟩ : ∃ c, l4 = [c] := List.length_eq_one_iff.1 hl4
      have hnew := hN.new
      have zw : w.drew.heap.size = w.heap.size := rfl
      have f25 : Fr [bn] w2 w5 := (hF3.mono (fun i hi => by simp at hi)).t hF5
      refine ⟨bn, pn, sv2, rfl, hB3.fr hF5 (by simp; omega), ⟨((hd0.t hF4).t hN.fr).trans f25 (fun i hi => .inr (by simp at hi; omega)), by simpa using hB5, hN.own.fr f25 (fun i hi hm => by have := hnew i hi; simp at hm; omega), by omega, by omega, fun i hi => by have := hnew i hi; omega, by omega, fun hm => by have := hnew _ hm; omega, fun hm => by have := hlt _ hm; omega⟩⟩
  rintro _ w1 ⟨bn, pn, sv2, rfl, hpn1, hr1⟩
  obtain ⟨n, hn⟩ : ∃ n : Nat, i = k.base + n := ⟨(i - k.base).toNat, by omega⟩
  have hS : ∀ {w'}, Fr [] w w' → Bk w' pk 137 (kCells ps k sv ev) ∧ Sl w' 2 ev k.ents.length cells := fun f => ⟨hkp.blk.fr f (by simp), hsl.fr f (fun i _ => by simp)⟩
  have hpkl := hkp.blk.lt
  have hskl := h.sk.lt
  have hF1l := sSl.lt hkp.snp
  have hF2l := sEns.lt hkp.ent
  have hd1 := Fr.drew [] w1
  have hf01 := hr1.fr.t hd1
  refine ⟨fun w' => Bk w' pk 137 (kCells ps k sv ev) ∧ Sl w' 2 ev k.ents.length cells, hS hf01, ?_⟩
  refine (last_c (hS hf01).1 (hS hf01).2 (by omega) (by omega)).use ?_
  rintro _ w2 ⟨rfl, hw2⟩
  have hd2 : Fr [] w1.drew w2 := by rw [hw2]; exact Fr.drew [] _
  have hf02 := hf01.t hd2
  have hf12 := hd1.t hd2
  refine ⟨hS hf02, leq ?_⟩
  let ok : Bool := decide (i ≤ k.base + k.ents.length ∧ (k.ents.getD (i - k.base - 1).toNat (0, [])).1 = t)
  have main : ∀ {P : Value → Prop}, P (.bool ok) → GdP (isB (.bool (decide (i ≤ k.base + (k.ents.length : Int)))) true) (fun R => R (ptr pk)) fun t56_22 =>
      GdP (isB (.bool (decide (i ≤ k.base + (k.ents.length : Int)))) true) (fun R => NilC t56_22 R) fun t57_23 =>
      GdP (isB (.bool (decide (i ≤ k.base + (k.ents.length : Int)))) true) (fun R => FAd 6 t57_23 R) fun t58_24 =>
      GdP (isB (.bool (decide (i ≤ k.base + (k.ents.length : Int)))) true) (fun R => LdC (fun w' => Bk w' pk 137 (kCells ps k sv ev) ∧ Sl w' 2 ev k.ents.length cells) t58_24 R) fun t59_25 =>
      GdP (isB (.bool (decide (i ≤ k.base + (k.ents.length : Int)))) true) (fun R => R (.int .i64 i)) fun t60_26 =>
      GdP (isB (.bool (decide (i ≤ k.base + (k.ents.length : Int)))) true) (fun R => R (ptr pk)) fun t61_27 =>
      GdP (isB (.bool (decide (i ≤ k.base + (k.ents.length : Int)))) true) (fun R => NilC t61_27 R) fun t62_28 =>
      GdP (isB (.bool (decide (i ≤ k.base + (k.ents.length : Int)))) true) (fun R => FAd 3 t62_28 R) fun t63_29 =>
      GdP (isB (.bool (decide (i ≤ k.base + (k.ents.length : Int)))) true) (fun R => LdC (fun w' => Bk w' pk 137 (kCells ps k sv ev) ∧ Sl w' 2 ev k.ents.length cells) t63_29 R) fun t64_30 =>
      GdP (isB (.bool (decide (i ≤ k.base + (k.ents.length : Int)))) true) (fun R => Bin Try.prog (fun w' => Bk w' pk 137 (kCells ps k sv ev) ∧ Sl w' 2 ev k.ents.length cells) .sub 3 false false t60_26 t64_30 R) fun t65_31 =>
      GdP (isB (.bool (decide (i ≤ k.base + (k.ents.length : Int)))) true) (fun R => Bin Try.prog (fun w' => Bk w' pk 137 (kCells ps k sv ev) ∧ Sl w' 2 ev k.ents.length cells) .sub 3 false true t65_31 (.int .i64 1) R) fun t66_32 =>
      GdP (isB (.bool (decide (i ≤ k.base + (k.ents.length : Int)))) true) (fun R => IAdS 2 t59_25 t66_32 R) fun t67_33 =>
      GdP (isB (.bool (decide (i ≤ k.base + (k.ents.length : Int)))) true) (fun R => FAd 0 t67_33 R) fun t68_34 =>
      GdP (isB (.bool (decide (i ≤ k.base + (k.ents.length : Int)))) true) (fun R => LdC (fun w' => Bk w' pk 137 (kCells ps k sv ev) ∧ Sl w' 2 ev k.ents.length cells) t68_34 R) fun t69_35 =>
      GdP (isB (.bool (decide (i ≤ k.base + (k.ents.length : Int)))) true) (fun R => R (.int .i64 t)) fun t70_36 =>
      GdP (isB (.bool (decide (i ≤ k.base + (k.ents.length : Int)))) true) (fun R => Bin Try.prog (fun w' => Bk w' pk 137 (kCells ps k sv ev) ∧ Sl w' 2 ev k.ents.length cells) .eql 3 false false t69_35 t70_36 R) fun t71_37 =>
      Pick (.bool (decide (i ≤ k.base + (k.ents.length : Int)))) t71_37 (.bool false) P := by
    intro P hP
    by_cases c : i ≤ k.base + (k.ents.length : Int)
    · have hg : isB (.bool (decide (i ≤ k.base + (k.ents.length : Int)))) true = true := by simp [isB]; omega
      have hjl : n - 1 < k.ents.length := by omega
      have hin : (i - k.base - 1).toNat = n - 1 := by omega
      obtain ⟨Ga, hrd, hGa⟩ := rows_get sEn hrows (n - 1) hjl
      have h2z : sEn.size = 2 := rfl
      rw [h2z] at hrd
      obtain ⟨_, _, _, _, hcs, _, ⟨rfl, rfl, _⟩, _⟩ := hrd
      have hv : cells[(n - 1) * 2]? = some (.int .i64 k.ents[n - 1].1) := by
        have := congrArg (fun l : List Value => l[0]?) hcs
        simpa [List.getElem?_take, List.getElem?_drop] using this
      obtain ⟨a, b, h1, h2, h3⟩ := ix2_ex (κ := .i64) (S := fun w' => Bk w' pk 137 (kCells ps k sv ev) ∧ Sl w' 2 ev k.ents.length cells) (fun w' h => h.2) hsl hjl hv
      refine gdT hg rfl (gdT hg (nilC rfl) (gdT hg (fad rfl) (gdT hg (ldC_S (fun w' h => h.1) rfl rfl) (gdT hg rfl (gdT hg rfl (gdT hg (nilC rfl) (gdT hg (fad rfl) (gdT hg (ldC_S (fun w' h => h.1) rfl rfl) (gdT hg (sub64 (by omega) rfl) (gdT hg (sub64 (by omega) rfl) ?_))))))))))
      rw [show i - k.base - 1 = ((n - 1 : Nat) : Int) by omega]
      refine gdT hg h1 (gdT hg h2 (gdT hg h3 (gdT hg rfl (gdT hg (eql rfl) (pick_t (by simp; omega) ?_)))))
      have e : ok = decide (k.ents[n - 1].1 = t) := by
        show decide _ = _
        rw [hin, List.getD_eq_getElem?_getD, List.getElem?_eq_getElem hjl]
        simp only [Option.getD_some]
        rw [decide_eq_decide]
        exact ⟨fun h => h.2, fun h => ⟨c, h⟩⟩
      rw [← e]
      exact hP
    · have hg : isB (.bool (decide (i ≤ k.base + (k.ents.length : Int)))) true = false := by simp [isB]; omega
      refine gdF hg (gdF hg (gdF hg (gdF hg (gdF hg (gdF hg (gdF hg (gdF hg (gdF hg (gdF hg (gdF hg (gdF hg (gdF hg (gdF hg (gdF hg (gdF hg (pick_f (by simp; omega) ?_))))))))))))))))
      have e : ok = false := by
        show decide _ = _
        rw [decide_eq_false_iff_not]
        exact fun h => c h.1
      rw [← e]
      exact hP
  refine main ?_
  clear main
  have hwfr := hwf.reset (i := i) (t := t) (d := d) hgood ht hdb (by have := ksz_reset k i t d; omega)
  have hkzr := ksz_reset k i t d
  refine ⟨fun ds w' => ∃ ev' F', Bk w' pn 137 (rsCells ps k i t sv2 ev') ∧ Rs w w' bn pn ps k i t sv2 d ∧ sEns.rd w' [ev'] (resetE k i t) F' ∧ (∀ j ∈ F', j ∈ F2 ∨ w.heap.size ≤ j) ∧ bn ∉ F' ∧ pn ∉ F' ∧
    (ds = [] ∨ ∃ dl, ds = [dl] ∧ w'.heap[dl]? = some (.deferred (some [])) ∧ w.heap.size ≤ dl ∧ dl ≠ pn ∧ dl ≠ bn ∧ dl ∉ fp sv2 ∧ dl ∉ F'), ?_, if_b (fun hok => ?_) (fun hok => ?_)⟩
  case refine_3 =>
    have he : resetE k i t = [] := by
      unfold resetE
      rw [if_neg (of_decide_eq_false hok)]
    refine ⟨.slice none 0 0, [], hpn1.fr hf12 (by simp), hr1.step hf12 (by simp) (fun i _ => by simp) (fun i hi => by simp at hi), ?_, fun j hj => (by cases hj), by simp, by simp, .inl rfl⟩
    rw [he]
    exact ⟨.slice none 0 0, [], [], rfl, Nat.le_refl _, ⟨none, 0, rfl, rfl, fun _ => ⟨rfl, rfl⟩, fun a ha => by cases ha⟩, ⟨rfl, rfl⟩, rfl⟩
  case refine_2 =>
    have hres : resetE k i t = k.ents.drop (i - k.base).toNat := by
      unfold resetE
      rw [if_pos (of_decide_eq_true hok)]
    have hp2 := hpn1.fr hf12 (by simp)
    have hr2 := hr1.step hf12 (by simp) (fun i _ => by simp) (fun i hi => by simp at hi)
    refine C_keep_Keep_behind_link ?_
    unfold C_keep_Keep_behind
    refine box' (l := [ptr pk]) rfl ?_
    intro px w3 hpx hB3 hF3 hs3
    refine box' (l := [.int .i64 i]) rfl ?_
    intro py w4 hpy hB4 hF4 hs4
    intro r hyy
    refine callE_of C_keep_Keep_behind_1_ent ?_
    obtain ⟨hl1, hl2, hFl, hsl4⟩ := loopW_at w4 r
    obtain ⟨dl, hdl⟩ : ∃ dl, w4.heap.size = dl := ⟨_, rfl⟩
    rw [hdl] at hl1 hl2 hsl4 hyy ⊢
    have f24 : Fr [] w2 (loopW w4 r) := (hF3.t hF4).t hFl
    have hb2 := hr2.bb.lt
    have hpl2 := hp2.lt
    have hol2 := hr2.own.lt
    have qn1 := hr2.n1
    have qn2 := hr2.n2
    have h02 := hr2.fr.size
    have hGlt : ∀ j ∈ G, j < w.heap.size := fun j hj => hF2l j (hGF j hj)
    have hstep : ∀ (Z : World → List (Int × List Nat) → Prop), Z = (fun w' de => Bk w' px 57 [ptr pk] ∧ Bk w' py 3 [.int .i64 i] ∧ Bk w' bn 57 [ptr pn] ∧ (∃ ev' cs' G', Bk w' pn 137 (rsCells ps k i t sv2 ev') ∧ Own w' 141 2 ev' de.length cs' ∧ sEn.rows w' de cs' G' ∧ (∀ j ∈ G', j ∈ G) ∧ ∀ j ∈ fp ev', dl + 1 < j) ∧
        w'.heap[dl + 1]? = some (LO r .ready none) ∧ w'.heap[dl]? = some (.deferred (some [])) ∧ Own w' 5 1 sv2 d.length (bytes d) ∧ Fr [] w w' ∧ dl + 2 ≤ w'.heap.size) →
        CallF Try.prog 108 #[yv (dl + 1), ptr px, ptr py] (loopW w4 r) fun r w' => r = .tuple #[] ∧ Z w' (k.ents.drop (i - k.base).toNat) := by
      intro Z hZ
      refine behind1_c (Y := Z) (pk := pk) (ps := ps) (sv := sv) (ev := ev) (cells := cells) (G := G) hwb (by omega) (by omega) ?_ ?_ ?_ ?_
      · subst hZ; rintro w' de ⟨k1, k2, k3, k4, k5, k6, k7, k8, k9⟩
        exact ⟨k1, k2, (hS k8).1, (hS k8).2, rows_fr sEn k8 hrows (fun j _ => by simp)⟩
      · subst hZ; rintro w' w'' de ⟨k1, k2, k3, ⟨ev', cs', G', k4, k4b, k4c, k4d, k4e⟩, k5, k6, k7, k8, k9⟩ f
        exact ⟨k1.fr f (by simp), k2.fr f (by simp), k3.fr f (by simp), ⟨ev', cs', G', k4.fr f (by simp), k4b.fr f (fun j _ => by simp), rows_fr sEn f k4c (fun j _ => by simp), k4d, k4e⟩, f.get k5 (by simp), f.get k6 (by simp), k7.fr f (fun j _ => by simp), k8.t f, by have := f.size; omega⟩
      · subst hZ; rintro w' de a cs F ⟨k1, k2, k3, ⟨ev', cs', G', k4, k4b, k4c, k4d, k4e⟩, k5, k6, k7, k8, k9⟩ hrd hFG hdel wb be T l f hbe hBe
        have k5b := f.get k5 (by simp)
        have z0 := f.size
        have k4lt := k4.lt
        have k3lt := k3.lt
        have evlt := k4b.lt
        refine hyy _ wb _ k5b ?_
        have hlen : cs.length = 2 := sEn.len hrd
        refine alloc_n (n := 2) (by kernel_rfl) ?_
        intro e10 wc l10 hl10 he10 hB10 hF10 hs10
        refine store_all (n := 2) (vs := cs) hB10 (by kernel_rfl) hl10 hlen (by omega) (sEn.one hrd) ?_
        intro wd hBd hFd hsd
        have fbd : Fr [] wb wd := hF10.trans hFd (fun j hj => .inr (by simp at hj; omega))
        have k5d := fbd.get k5b (by simp)
        refine ⟨k5d, ?_⟩
        have f0 : Fr [dl + 1] wd (setO wd (dl + 1) (LO r .busy none)) := Fr.setO wd _ (.inl (by simp))
        have b0 : (setO wd (dl + 1) (LO r .busy none)).heap[dl + 1]? = some (LO r .busy none) := setO_same _ (heap_lt k5d)
        have zs0 := setO_size wd (dl + 1) (LO r .busy none)
        generalize setO wd (dl + 1) (LO r .busy none) = we at *
        have fde : Fr [dl + 1] wd we.drew := f0.t (Fr.drew _ we)
        have f1 : Fr [dl + 1] w' we.drew := ((f.t fbd).mono (fun j hj => by simp at hj)).t fde
        have hbn : bn < dl := by omega
        have hpn : pn < dl := by omega
        have bnE : Bk we.drew bn 57 [ptr pn] := k3.fr f1 (by simp; omega)
        have pnE := k4.fr f1 (by simp; omega)
        have e10E : Bk we.drew e10 141 cs := hBd.fr fde (by simp; omega)
        have evE := k4b.fr f1 (fun j hj hm => by have := k4e j hj; simp at hm; omega)
        have hG'lt : ∀ j ∈ G', j < w.heap.size := fun j hj => hGlt j (k4d j hj)
        have rowsE := rows_fr sEn f1 k4c (fun j hj hm => by have := hG'lt j hj; simp at hm; omega)
        have hFlt : ∀ j ∈ F, j < w.heap.size := fun j hj => hGlt j (hFG j hj)
        have hrdE := sEn.fr hrd f1 (fun j hj hm => by have := hFlt j hj; simp at hm; omega)
        let S : World → Prop := fun w' => Bk w' bn 57 [ptr pn] ∧ Bk w' pn 137 (rsCells ps k i t sv2 ev') ∧ Bk w' e10 141 cs
        have hSf : ∀ {w''}, Fr (fp ev') we.drew w'' → S w'' := fun g => ⟨bnE.fr g (fun hm => by have := k4e _ hm; omega), pnE.fr g (fun hm => by have := k4e _ hm; omega), e10E.fr g (fun hm => by have := evlt _ hm; omega)⟩
        refine ⟨S, hSf (Fr.refl _ _), ?_⟩
        refine ldC_S (fun w' h => h.1) rfl (ldC_S (fun w' h => h.1) rfl (nilC (fad (ldC_S (fun w' h => h.2.1) rfl ?_))))
        refine ldA_S (l := cs) (fun w' h => h.2.2) (by omega) ?_
        have ecs : List.take 2 (List.drop 0 cs) = cs := by rw [List.drop_zero]; exact List.take_of_length_le (by omega)
        rw [ecs]
        refine own_push (S := sEn) (a := a) (cs := cs) (F := F) evE rowsE (fun j hj hm => by have := hG'lt j hj; have := k4e j hm; omega) (by decide) (by decide) (bytes := 32) (by decide) (by omega) Try.underlying135 infoE rfl hrdE (fun j hj hm => by have := hFlt j hj; have := k4e j hm; omega) rfl (fun w'' g => hSf g) ?_
        intro ev2 wf ho2 hr2' hff hsub2
        refine ⟨hSf hff, nilC (fad (store' ((hSf hff).2.1) (by kernel_rfl) (by simp [rsCells]) (by obtain ⟨A, c, e⟩ := ho2.len; rw [e]; rfl) ?_))⟩
        intro wg hBg hFg hsg
        have noev : ∀ j, j ≤ dl + 1 → j ∉ fp ev' := fun j hj hm => by have := k4e j hm; omega
        have b0g : wg.heap[dl + 1]? = some (LO r .busy none) := hFg.get (hff.get (show we.drew.heap[dl + 1]? = _ from b0) (noev _ (Nat.le_refl _))) (by simp; omega)
        have zf := hff.size
        have zwe : we.drew.heap.size = we.heap.size := rfl
        have hev2 : ∀ j ∈ fp ev2, dl + 1 < j := fun j hj => (hsub2 j hj).elim (k4e j) (fun h' => by omega)
        have fh : Fr [dl + 1] wg (setO wg (dl + 1) (LO r .ready none)) := Fr.setO wg _ (.inl (by simp))
        have bh : (setO wg (dl + 1) (LO r .ready none)).heap[dl + 1]? = some (LO r .ready none) := setO_same _ (heap_lt b0g)
        have zsh := setO_size wg (dl + 1) (LO r .ready none)
        refine ⟨b0g, rfl, ?_⟩
        generalize setO wg (dl + 1) (LO r .ready none) = wh at *
        have ffh : Fr [pn, dl + 1] wf wh := (hFg.mono (fun j hj => .inl (by simp at hj; simp [hj]))).trans fh (fun j hj => .inl (by simp at hj; simp [hj]))
        have feh : Fr (pn :: (dl + 1) :: fp ev') we.drew wh := (hff.mono (fun j hj => .inl (by simp [hj]))).trans ffh (fun j hj => .inl (by simp at hj; rcases hj with h | h <;> simp [h]))
        have fwh : Fr (pn :: (dl + 1) :: fp ev') w' wh := (f1.mono (fun j hj => .inl (by simp at hj; simp [hj]))).trans feh (fun j hj => .inl hj)
        have no : ∀ j, j ≤ dl → j ≠ pn → j ∉ pn :: (dl + 1) :: fp ev' := fun j hj hne hm => by
          simp only [List.mem_cons] at hm
          rcases hm with hm | hm | hm
          · exact hne hm
          · omega
          · exact noev j (by omega) hm
        refine ⟨⟨k1.fr fwh (no _ (by omega) (by omega)), k2.fr fwh (no _ (by omega) (by omega)), k3.fr fwh (no _ (by omega) hr2.ne), ⟨ev2, _, _, ?_, ho2.fr ffh (fun j hj hm => by have := hev2 j hj; simp at hm; omega), rows_fr sEn ffh hr2' (fun j hj hm => ?_), fun j hj => ?_, hev2⟩, bh, fwh.get k6 (no _ (Nat.le_refl _) (by omega)), k7.fr fwh (fun j hj => no j (by have := hol2 j hj; omega) (fun e => hr2.s2 (e ▸ hj))), k8.trans fwh (fun j hj => ?_), by omega⟩, hBe.fr (((fbd.mono (fun j hj => by simp at hj)).trans fde (fun j hj => .inl hj)).mono (Y := pn :: (dl + 1) :: fp ev') (fun j hj => .inl (by simp at hj; simp [hj])) |>.trans feh (fun j hj => .inl hj)) (fun hm => ?_)⟩
        · exact (by simpa [rsCells] using hBg : Bk wg pn 137 (rsCells ps k i t sv2 ev2)).fr fh (by simp; omega)
        · simp at hm
          rcases List.mem_append.1 hj with h' | h'
          · have := hG'lt j h'; omega
          · have := hFlt j h'; omega
        · rcases List.mem_append.1 hj with h' | h'
          · exact k4d j h'
          · exact hFG j h'
        · simp only [List.mem_cons] at hj
          rcases hj with hj | hj | hj
          · exact .inr (by have := hr2.n2; omega)
          · exact .inr (by omega)
          · exact .inr (by have := k4e j hj; omega)
        · simp only [List.mem_cons] at hm
          rcases hm with hm | hm | hm
          · omega
          · omega
          · have := evlt _ hm; omega
      · subst hZ
        exact ⟨(hB3.fr hF4 (by simp)).fr hFl (by simp), hB4.fr hFl (by simp), hr2.bb.fr f24 (by simp), ⟨.slice none 0 0, [], [], hp2.fr f24 (by simp), Own.nil _ _ _, ⟨rfl, rfl⟩, fun j hj => (by cases hj), fun j hj => by simp [fp_nil] at hj⟩, hl2, hl1, hr2.own.fr f24 (fun j _ => by simp), hr2.fr.t f24, by omega⟩
    refine CallF.use (hstep _ rfl) ?_
    rintro _ w8 ⟨-, k1, k2, k3, ⟨ev', cs', G', k4, k4b, k4c, k4d, k4e⟩, k5, k6, k7, k8, k9⟩
    clear hstep hyy
    refine ⟨.ready, k5, (by intro e; cases e), ?_⟩
    have f8 : Fr [dl + 1] w8 (setO w8 (dl + 1) (LO r .exhausted none)) := Fr.setO w8 _ (.inl (by simp))
    generalize setO w8 (dl + 1) (LO r .exhausted none) = w9 at *
    rw [← hres] at k4b k4c
    have hG'lt : ∀ j ∈ G', j < w.heap.size := fun j hj => hGlt j (k4d j hj)
    refine ⟨ev', (if resetE k i t = [] then [] else fp ev') ++ G', k4.fr f8 (by simp; omega), ⟨k8.trans f8 (fun j hj => .inr (by simp at hj; omega)), k3.fr f8 (by simp; omega), k7.fr f8 (fun j hj hm => by have := hol2 j hj; simp at hm; omega), hr2.n1, hr2.n2, hr2.n3, hr2.ne, hr2.s1, hr2.s2⟩, ⟨ev', cs', G', rfl, k4b.cap, k4b.sl.fr f8 (fun j hj hm => by have := k4e j hj; simp at hm; omega), rows_fr sEn f8 k4c (fun j hj hm => by have := hG'lt j hj; simp at hm; omega), rfl⟩, fun j hj => ?_, fun hm => ?_, fun hm => ?_, .inr ⟨dl, rfl, f8.get k6 (by simp), by omega, by omega, by omega, fun hm => by have := hol2 _ hm; omega, fun hm => ?_⟩⟩
    · rcases List.mem_append.1 hj with h' | h'
      · split at h'
        · cases h'
        · exact .inr (by have := k4e j h'; omega)
      · exact .inl (hGF j (k4d j h'))
    all_goals
      rcases List.mem_append.1 hm with h' | h'
      · split at h'
        · cases h'
        · have := k4e _ h'; omega
      · have := hG'lt _ h'; have := hr2.n1; have := hr2.n2; omega
  rintro ds w3 ⟨ev', F', hpn3, hr3, hent3, hF', hbF, hpF, hds⟩
  have hd3 := Fr.drew [] w3
  have hwn : w3.drew.heap.size = w3.heap.size := rfl
  have h03 := hr3.fr.size
  let S : World → Prop := fun w' => Bk w' pk 137 (kCells ps k sv ev) ∧ Bk w' bn 57 [ptr pn]
  have hS3 : ∀ {w'}, Fr [] w3.drew w' → S w' := fun f => ⟨hkp.blk.fr ((hr3.fr.t hd3).t f) (by simp), (hr3.bb.fr hd3 (by simp)).fr f (by simp)⟩
  refine ⟨S, hS3 (Fr.refl _ _), ?_⟩
  refine nilC (fad (ldC_S (fun w' h => h.1) rfl (ldC_S (fun w' h => h.2) rfl ?_)))
  obtain ⟨F1', hsn3, hF1'⟩ := own_sl hr3.own
  have hkp3 : Kp w3.drew pn ps sv2 ev' (k.reset i t d) F1' F' := ⟨hpn3.drew, sSl.fr hsn3 hd3 (fun i _ => by simp), sEns.fr hent3 hd3 (fun i _ => by simp), hwfr.i⟩
  refine (pack_c hkp3 (by have := hwfr.snapL; omega) (by have := hwfr.entB; omega) (fun e he => (hwfr.e e he).1)).use ?_
  intro pv w4 hN4
  refine ⟨hS3 hN4.fr, ?_⟩
  have hf04 := (hr3.fr.t hd3).t hN4.fr
  have hpk5 := hwfr.packL
  have hll := h.ll
  have hbn := h.inv.bnd
  have hlen := h.inv.len
  have z4 := hN4.fr.size
  have hnew4 := hN4.new
  refine (schk_c (h.sk.fresh hf04) hN4.own.sl hwfr.packB (by omega) (fun _ i hi hm => by have := hnew4 i hi; have := hskl i hm; omega) (by omega) (by omega)).use ?_
  rintro r w5 (⟨rfl, hlong, hF5⟩ | ⟨rfl, hle, hfull, hF5⟩ | ⟨rfl, hle, hfit, D', at2, t2, hput, lv', tv', hsk5, hF5, hsub5⟩)
  · omega
  · have := h.cp5.2; have := packB_size (k.reset i t d); omega
  obtain ⟨D2, a2, u2, hput2, hlen2, hinv2⟩ := St.sinv_checkpoint h.inv (by omega) hle hwfr.packB hfit
  obtain ⟨rfl, e2⟩ := Prod.mk.inj (hput.symm.trans hput2)
  obtain ⟨rfl, rfl⟩ := Prod.mk.inj e2
  have h34 : Fr [] w3 w4 := hd3.t hN4.fr
  have hn5 : ∀ j, w.heap.size ≤ j → j ∉ skX ps pd bb lv tv := fun j hj hm => by have := hskl j hm; omega
  have hpk5' : Bk w5 pk 137 (kCells ps k sv ev) := (hkp.blk.fr hf04 (by simp)).fr hF5 h.kx
  have hbb5 := (hr3.bb.fr h34 (by simp)).fr hF5 (hn5 _ hr3.n1)
  have hpn5 := (hpn3.fr h34 (by simp)).fr hF5 (hn5 _ hr3.n2)
  refine ⟨⟨hpk5', hbb5⟩, neq (if_f (by simp) (ldC_bk hbb5 rfl (nilC (ldA_bk hpn5 (by simp [rsCells]) (nilC ?_)))))⟩
  have hone : ∀ u ∈ rsCells ps k i t sv2 ev', u.oneCell' = true := by
    intro u hu
    simp only [rsCells, List.mem_cons, List.not_mem_nil, or_false] at hu
    rcases hu with rfl | rfl | rfl | rfl | rfl | rfl | rfl
    · rfl
    · rfl
    · rfl
    · rfl
    · rfl
    · obtain ⟨A, c, rfl⟩ := hr3.own.len; rfl
    · exact sEns.one hent3 _ (by simp)
  refine store_all (n := 7) (vs := rsCells ps k i t sv2 ev') hpk5' (by kernel_rfl) rfl rfl (by omega) hone ?_
  intro w6 hB6 hF6 hs6
  have z5 := hF5.size
  have hlt5 := hsk5.lt
  have hkx5 : pk ∉ skX ps pd bb lv' tv' := fun hm => (hsub5 _ hm).elim h.kx (fun h' => by omega)
  have hF36 : Fr (pk :: skX ps pd bb lv tv) w3 w6 := ((h34.mono (fun i hi => by simp at hi)).trans hF5 (fun i hi => .inl (by simp [hi]))).trans hF6 (fun i hi => .inl (by simp at hi; simp [hi]))
  have hnn : ∀ j, w.heap.size ≤ j → j ∉ pk :: skX ps pd bb lv tv := fun j hj hm => by
    rcases List.mem_cons.1 hm with rfl | hm
    · omega
    · exact hn5 j hj hm
  have hF'n : ∀ j ∈ F', j ∉ pk :: skX ps pd bb lv tv := fun j hj hm => (hF' j hj).elim (fun h' => (h.d12 j (List.mem_cons.1 hm)).2 h') (fun h' => hnn j h' hm)
  have hF1n : ∀ j ∈ F1', w.heap.size ≤ j := fun j hj => hr3.n3 j (hF1' j hj)
  have hF'lt := sEns.lt hent3
  have hF1lt := sSl.lt hsn3
  have fin : ∀ w7 X, Fr X w6 w7 → (∀ j ∈ X, w.heap.size ≤ j ∧ j ∉ F1' ∧ j ∉ F' ∧ j < w3.heap.size) → Out w0 w w7 Y ∧
      (badReset k i t ∧ Value.int .i64 0 = .int .i64 1 ∧ Kt w0 w7 pk pd cp (bnd + 1) (z + d.length + 100) ((k0 :: ks).drop safe) Y ∨
       ¬ badReset k i t ∧ 262144 < d.length ∧ Value.int .i64 0 = .int .i64 3 ∧ Kt w0 w7 pk pd cp (bnd + 1) (z + d.length + 100) ((k0 :: ks).drop safe) Y ∨
       ¬ badReset k i t ∧ d.length ≤ 262144 ∧ Value.int .i64 0 = .int .i64 0 ∧ Kt w0 w7 pk pd cp (bnd + 1) (z + d.length + 100) [k.reset i t d] Y) := by
    intro w7 X f hX
    have hX1 : ∀ j, j = pk ∨ j ∈ skX ps pd bb lv' tv' → j ∉ X := fun j hj hm => by
      obtain ⟨x1, x2, x3, x4⟩ := hX j hm
      rcases hj with rfl | hj
      · omega
      · exact (hsub5 j hj).elim (hn5 j x1) (fun h' => by omega)
    have f07 : Fr (pk :: skX ps pd bb lv tv) w w7 := ((hr3.fr.mono (fun i hi => by simp at hi)).trans hF36 (fun i hi => .inl hi)).trans f (fun j hj => .inr (hX j hj).1)
    have hw : ((Dsk.mk D'.B []).write ((gen + 1) % 2) (pad (rootL (gen + 1) (packB (k.reset i t d)).length))).B.length = D'.B.length := by unfold Dsk.write; split <;> simp
    have hh : halfN ((Dsk.mk D'.B []).write ((gen + 1) % 2) (pad (rootL (gen + 1) (packB (k.reset i t d)).length))).B = halfN D.B := by unfold halfN; rw [hw, hlen2]
    have hwz := h.fr.size
    have hps := packB_size (k.reset i t d)
    have z07 := f07.size
    refine ⟨h.out f07, .inr (.inr ⟨hgood, by omega, rfl, ps, bb, lv', tv', sv2, ev', _, gen + 1, life, _, 0, _, true, packB (k.reset i t d), [], k.reset i t d, [], F1', F', { fr := h.fr.trans f07 (fun j hj => .inr (h.new j (List.mem_cons.1 hj))), kp := ⟨hB6.fr f (hX1 _ (.inl rfl)), sSl.fr (sSl.fr hsn3 hF36 (fun j hj => hnn j (hF1n j hj))) f (fun j hj hm => (hX j hm).2.1 hj), sEns.fr (sEns.fr hent3 hF36 hF'n) f (fun j hj hm => (hX j hm).2.2.1 hj), hwfr.i⟩, sk := (hsk5.fr hF6 (fun j hj hm => hkx5 (by simp at hm; subst hm; exact hj))).fr f (fun j hj => hX1 j (.inr hj)), inv := hinv2, base := .inl ⟨rfl, rfl⟩, path := trivial, wf := fun q hq => by rw [List.mem_singleton.1 hq]; exact ⟨hwfr, by omega⟩, tk := by simp [took]; omega, zc := hz, cp5 := by rw [hh]; exact h.cp5, new := ?_, kx := hkx5, d12 := ?_, dis := ?_, dis2 := fun j hj => ⟨fun hm => by have := hF1n j hm; have := h.ylt j hj; omega, fun hm => (hF' j hm).elim (h.dis2 j hj).2 (fun h' => by have := h.ylt j hj; omega)⟩, ylt := fun j hj => by have := h.ylt j hj; omega, ll := Nat.zero_le _, b := by omega, cnt := Nat.zero_le _ }, rfl⟩)⟩
    · rintro j (rfl | hj)
      · exact h.new _ (.inl rfl)
      · exact (hsub5 j hj).elim (fun h' => h.new j (.inr h')) (fun h' => by omega)
    · rintro j (rfl | hj)
      · exact ⟨fun hm => by have := hF1n _ hm; omega, fun hm => hF'n _ hm (by simp)⟩
      · refine ⟨fun hm => (hsub5 j hj).elim (hn5 j (hF1n j hm)) (fun h' => by have := hF1lt j hm; omega), fun hm => (hsub5 j hj).elim (fun h' => hF'n j hm (by simp [h'])) (fun h' => by have := hF'lt j hm; omega)⟩
    · rintro j (rfl | hj) hy
      · exact h.dis _ (.inl rfl) hy
      · exact (hsub5 j hj).elim (fun h' => h.dis j (.inr h') hy) (fun h' => by have := h.ylt j hy; omega)
  refine leave_one ?_
  rcases hds with rfl | ⟨dl, rfl, hdl, q1, q2, q3, q4, q5⟩
  · exact .inl ⟨rfl, fin w6 [] (Fr.refl _ _) (fun j hj => by cases hj)⟩
  · have hdl3 := heap_lt hdl
    refine .inr ⟨dl, rfl, hF36.get hdl (hnn dl q1), fin _ [dl] (Fr.setO _ _ (.inl (by simp))) (fun j hj => ?_)⟩
    simp at hj
    subst hj
    exact ⟨q1, fun hm => q4 (hF1' _ hm), q5, hdl3⟩
end Go.Proofs.Ytmlaconjeplhpaa

set_option linter.unusedVariables false
set_option linter.unusedSimpArgs false
set_option maxRecDepth 20000
namespace Go.Proofs.Ytmlaconjeplhpaa
open Go Go.Vc

/-- The document's keep: its cells, and what it reads as. -/
def mCells (k : KD) (sv ev : Value) : List Value := [.int .i64 k.term, .int .i64 k.vote, .int .i64 k.base, .int .i64 k.bterm, sv, ev]
def sKd : Shape KD where
  size := 6
  rd w cs k F := ∃ sv ev F1 F2, cs = mCells k sv ev ∧ sSl.rd w [sv] k.snap F1 ∧ sEns.rd w [ev] k.ents F2 ∧ F = F1 ++ F2
  len := by rintro w cs k F ⟨sv, ev, F1, F2, rfl, _⟩; rfl
  one := by
    rintro w cs k F ⟨sv, ev, F1, F2, rfl, h1, h2, _⟩ u hu
    simp only [mCells, List.mem_cons, List.not_mem_nil, or_false] at hu
    rcases hu with rfl | rfl | rfl | rfl | rfl | rfl
    · rfl
    · rfl
    · rfl
    · rfl
    · exact sSl.one h1 _ (by simp)
    · exact sEns.one h2 _ (by simp)
  fr := by
    rintro w w' cs k F X ⟨sv, ev, F1, F2, rfl, h1, h2, rfl⟩ f hx
    exact ⟨sv, ev, F1, F2, rfl, sSl.fr h1 f (fun i hi => hx i (by simp [hi])), sEns.fr h2 f (fun i hi => hx i (by simp [hi])), rfl⟩
  lt := by
    rintro w cs k F ⟨sv, ev, F1, F2, rfl, h1, h2, rfl⟩ i hi
    exact (List.mem_append.1 hi).elim (sSl.lt h1 i) (sEns.lt h2 i)
theorem infoN : (Try.prog.info? 80).map (fun i => (i.zero, i.size, i.bytes)) = some (some (.agg #[.int .i64 0, .slice none 0 0]), 2, 32) := by kernel_rfl
theorem bldM {a b c d : Int} {q : Value} {k : Value → Prop} (hq : ∃ A n c, q = .slice A n c) (h : k (.agg (List.toArray [.int .i64 a, .int .i64 b, .int .i64 c, .int .i64 d, q, .slice none 0 0]))) :
    Bld Try.prog 67 [(0, .int .i64 a), (1, .int .i64 b), (2, .int .i64 c), (3, .int .i64 d), (4, q)] k := by
  obtain ⟨A, n, c', rfl⟩ := hq
  exact ⟨[.int .i64 a, .int .i64 b, .int .i64 c, .int .i64 d, .slice A n c', .slice none 0 0], by kernel_rfl, by kernel_rfl, h⟩
theorem bldN {t : Int} {q : Value} {k : Value → Prop} (hq : ∃ A n c, q = .slice A n c) (h : k (.agg (List.toArray [.int .i64 t, q]))) : Bld Try.prog 80 [(0, .int .i64 t), (1, q)] k := by
  obtain ⟨A, n, c, rfl⟩ := hq
  exact bldV (vals := [.int .i64 t, .slice A n c]) [1, 1] (by kernel_rfl) (n := 2) (by kernel_rfl) rfl (by kernel_rfl) rfl rfl h
theorem szM : sizeT Try.prog 67 = some 6 := by kernel_rfl
theorem now_c {w : World} {pk ps : Nat} {sv ev : Value} {k : KD} {F1 F2 : List Nat} (h : Kp w pk ps sv ev k F1 F2) (hw : WfK k) :
    CallF Try.prog 37 #[ptr pk] w fun r w' => Fr [] w w' ∧ ∃ cs F, r = .tuple #[.agg (List.toArray cs), .bool true] ∧ sKd.rd w' cs k F ∧ ∀ i ∈ F, w.heap.size ≤ i := by
  have hwb := hw.b
  have hwl := hw.entL
  have hws := hw.snapL
  refine C_furlonglaw16_now_link ?_
  unfold C_furlonglaw16_now
  refine alloc_n (n := 6) (by kernel_rfl) ?_
  intro br w1 lr hlr hbr hBr hF1 hs1
  have h1 := h.fresh hF1
  refine (base_c h1 (by omega)).use ?_
  rintro _ w2 ⟨v, rfl, hN2⟩
  refine ext0 (ext1 (ext2 ?_))
  have h2 := h1.fresh hN2.fr
  refine (term_c h2).use ?_
  rintro _ w2a ⟨rfl, e2a⟩
  rw [e2a]
  refine (voted_c h2).use ?_
  rintro _ w2b ⟨rfl, e2b⟩
  rw [e2b]
  have hlt2 := hN2.own.lt
  have hnew2 := hN2.new
  refine bldM (by obtain ⟨A, c, e⟩ := hN2.own.len; exact ⟨A, _, c, e⟩) ?_
  refine alloc_n (n := 6) (by kernel_rfl) ?_
  intro bm w3 lm hlm hbm hB3 hF3 hs3
  have hone : ∀ ev : Value, ev.oneCell' = true → ∀ u ∈ mCells k v ev, u.oneCell' = true := by
    intro ev hev u hu
    simp only [mCells, List.mem_cons, List.not_mem_nil, or_false] at hu
    rcases hu with rfl | rfl | rfl | rfl | rfl | rfl
    · rfl
    · rfl
    · rfl
    · rfl
    · obtain ⟨A, c, rfl⟩ := hN2.own.len; rfl
    · exact hev
  refine store_all (n := 6) (vs := mCells k v (.slice none 0 0)) hB3 szM hlm rfl (by omega) (hone _ rfl) ?_
  intro w4 hB4 hF4 hs4
  have f24 : Fr [] w2 w4 := hF3.trans hF4 (fun i hi => .inr (by simp at hi; omega))
  have h4 := h2.fresh f24
  obtain ⟨cells, G, hcap, hsl, hrows, hGF, _⟩ := list_open h4.ent
  refine (last_c h4.blk hsl (by omega) (by omega)).use ?_
  rintro _ w5 ⟨rfl, hw5⟩
  have f45 : Fr [] w4 w5 := by rw [hw5]; exact Fr.drew [] _
  have hf : isB (.bool (decide (k.base + (k.ents.length : Int) < k.base))) false = true := by simp [isB]; omega
  have h5 := h4.fresh f45
  refine lss (gdT hf rfl (gT hf ((last_c h5.blk (hsl.fr f45 (fun i _ => by simp)) (by omega) (by omega)).use ?_)))
  rintro _ w6 ⟨rfl, hw6⟩
  have f46 : Fr [] w4 w6 := f45.t (by rw [hw6]; exact Fr.drew [] _)
  refine gdT hf rfl (gdT hf (sub64 (by omega) rfl) (gdT hf (gtr rfl) (pick_f (by simp; omega) (if_f (by simp; omega) (add64 (by omega) ?_)))))
  have hB6 := hB4.fr f46 (by simp)
  have hBr2 := (hBr.fr hN2.fr (by simp)).fr f24 (by simp)
  have z4 := f24.size
  have z2 : w1.heap.size ≤ w2.heap.size := hN2.fr.size
  have z46 := f46.size
  have f14 : Fr [] w1 w4 := hN2.fr.t f24
  refine ⟨fun m _ i w' => ∃ (j : Nat) (ev2 : Value), j + m = k.ents.length ∧ i = .int .i64 (k.base + 1 + j) ∧ Fr [bm] w4 w' ∧ Bk w' bm 67 (mCells k v ev2) ∧ Ga sEn 80 (bm + 1) w' ev2 (k.ents.take j), k.ents.length, ⟨0, .slice none 0 0, by omega, by congr 1; omega, f46.mono (fun i hi => by simp at hi), hB6, Ga.nil _ _ _ _⟩, ?_⟩
  rintro m _ _ w7 ⟨j, ev2, hj, rfl, hF7, hB7, hga7⟩
  have f07 : Fr [] w w7 := (hF1.t f14).trans hF7 (fun i hi => .inr (by simp at hi; omega))
  have h7 := h.fresh f07
  have hsl7 := (list_open h7.ent)
  obtain ⟨cells7, G7, hcap7, hsl7, hrows7, _, _⟩ := hsl7
  have z7 := hF7.size
  refine (last_c h7.blk hsl7 (by omega) (by omega)).use ?_
  rintro _ w8 ⟨rfl, hw8⟩
  have f78 : Fr [] w7 w8 := by rw [hw8]; exact Fr.drew [] _
  have h8 := h7.fresh f78
  have z8 := f78.size
  refine leq (if_p (fun hle => ?_) (fun hgt => ?_))
  · have hjl : j < k.ents.length := by omega
    have hej := hw.e _ (List.getElem_mem hjl)
    refine (entry_in h8 hjl rfl hwb (by omega) (by omega)).use ?_
    rintro _ w9 ⟨q, rfl, hN9⟩
    refine ext0 (ext1 (ext2 (neq (if_f (by simp) ?_))))
    have f79 : Fr [] w7 w9 := f78.t hN9.fr
    have z9 := hN9.fr.size
    have hB9 := hB7.fr f79 (by simp)
    have hga9 := hga7.fr f79 (by simp)
    have hqlt := hN9.own.lt
    have hev7 := hga7.lt
    have hlow := hga9.low
    have hqn := hN9.new
    refine fad (ldC_bk hB9 rfl (bldN (by obtain ⟨A, c, e⟩ := hN9.own.len; exact ⟨A, _, c, e⟩) ?_))
    obtain ⟨Fq, hrq, hFq⟩ := own_sl hN9.own
    refine hga9.push (S := sEn) (u := .agg (List.toArray [.int .i64 k.ents[j].1, q])) (a := k.ents[j]) (z := .agg #[.int .i64 0, .slice none 0 0]) (bytes := 32) (cs := [.int .i64 k.ents[j].1, q]) (F := [] ++ Fq) (by decide) (by decide) (by decide) (by rw [List.length_take]; omega) (by omega) Try.underlying65 infoN rfl
      ⟨[.int .i64 k.ents[j].1], [q], [], Fq, rfl, rfl, ⟨rfl, rfl, hej.1⟩, hrq⟩ (fun i hi => by
        have h1 := hqn i (hFq i (by simpa using hi))
        exact ⟨by omega, fun hm => by have := hev7 i hm; omega⟩) rfl ?_
    intro ev3 w10 hga10 hF10
    have hB10 := hB9.fr hF10 (fun hm => by have := hlow _ hm; omega)
    refine fad (store' hB10 (by kernel_rfl) (by simp [mCells]) hga10.one ?_)
    intro w11 hB11 hF11 hs11
    refine add64 (by omega) ⟨m - 1, by omega, j + 1, ev3, by omega, by congr 1; omega, ?_, by simpa [mCells] using hB11, ?_⟩
    · refine ((hF7.trans f79 (fun i hi => by simp at hi)).trans hF10 (fun i hi => .inr (by have := hlow i hi; omega))).t hF11
    · rw [List.take_succ_eq_append_getElem hjl]
      exact hga10.fr hF11 (by simp)
  · obtain rfl : j = k.ents.length := by omega
    rw [List.take_length] at hga7
    refine (entry_out h8 (i := k.base) hwb (by omega) (.inl (Int.le_refl _))).use ?_
    rintro _ w9 ⟨rfl, hF9⟩
    refine ext0 (ext1 (ext2 ?_))
    have h9 := h8.fresh hF9
    refine (last_c h9.blk ((hsl7.fr f78 (fun i _ => by simp)).fr hF9 (fun i _ => by simp)) (by omega) (by omega)).use ?_
    rintro _ w10 ⟨rfl, hw10⟩
    have f910 : Fr [] w9 w10 := by rw [hw10]; exact Fr.drew [] _
    refine add64 (by omega) ?_
    refine (entry_out (h9.fresh f910) (i := k.base + k.ents.length + 1) hwb (by omega) (.inr (by omega))).use ?_
    rintro _ w11 ⟨rfl, hF11⟩
    refine ext0 (ext1 (ext2 ?_))
    have f711 : Fr [] w7 w11 := ((f78.t hF9).t f910).t hF11
    have hB11 := hB7.fr f711 (by simp)
    refine ldA_bk hB11 (by simp [mCells]) ?_
    refine eql (gdT (by simp [isB]) rfl (gdT (by simp [isB]) (eql rfl) (pick_t (by simp) ?_)))
    have hBr11 : Bk w11 br 67 lr := (hBr2.fr hF7 (by simp; omega)).fr f711 (by simp)
    have hga11 := hga7.fr f711 (by simp)
    refine store_all (n := 6) (vs := mCells k v ev2) hBr11 szM hlr rfl (by omega) (hone _ hga7.one) ?_
    intro w12 hB12 hF12 hs12
    refine ldA_bk hB12 (by simp [mCells]) ?_
    have hga12 := hga11.fr hF12 (by simp; omega)
    obtain ⟨F2', hrd, hF2'⟩ := hga12.rd (by decide)
    have f712 : Fr [br] w7 w12 := (f711.mono (fun i hi => by simp at hi)).t hF12
    have hown : Own w12 5 1 v k.snap.length (bytes k.snap) := ((hN2.own.fr f24 (fun i _ => by simp)).fr hF7 (fun i hi hm => by have := hlt2 i hi; simp at hm; omega)).fr f712 (fun i hi hm => by have := hnew2 i hi; simp at hm; omega)
    obtain ⟨F1', hsn, hF1'⟩ := own_sl hown
    refine ⟨f07.trans f712 (fun i hi => .inr (by simp at hi; omega)), mCells k v ev2, F1' ++ F2', rfl, ⟨v, ev2, F1', F2', rfl, hsn, hrd, rfl⟩, fun i hi => ?_⟩
    rcases List.mem_append.1 hi with h' | h'
    · have := hnew2 i (hF1' i h'); omega
    · have := hF2' i h'; omega
end Go.Proofs.Ytmlaconjeplhpaa

set_option linter.unusedVariables false
set_option linter.unusedSimpArgs false
set_option maxRecDepth 20000
namespace Go.Proofs.Ytmlaconjeplhpaa
open Go Go.Vc

section
variable {S : World → Prop} {w : World} {n i o : Nat} {κ : IntKind} {v u : Value} {cells : List Value} {k : Value → Prop}
theorem ixo_ex (hs : ∀ w', S w' → Sl w' 2 v n cells) (h0 : Sl w 2 v n cells) (hi : i < n) (hv : cells[i * 2 + o]? = some u) :
    ∃ a b, IAdS 2 v (.int κ i) (fun x => x = .pointer (some a)) ∧ FAd o (.pointer (some a)) (fun x => x = .pointer (some b)) ∧ LdC S (.pointer (some b)) (fun x => x = u) := by
  obtain ⟨A, c, rfl, hl, hn, hc⟩ := h0
  cases A with
  | none => have := (hn rfl).1; omega
  | some b =>
    refine ⟨b.add (i * 2), b.add (i * 2 + o), ⟨by omega, by omega, by simp⟩, ?_, ?_⟩
    · show Value.pointer (some ((b.add (i * 2)).add o)) = _
      rw [add_add']
    · refine ⟨u, fun w' e => ?_, rfl⟩
      obtain ⟨A', c', e', _, _, hc'⟩ := hs w' e
      cases e'
      exact hc' b rfl _ u hv
theorem ixo (hs : ∀ w', S w' → Sl w' 2 v n cells) (h0 : Sl w 2 v n cells) (hi : i < n) (hv : cells[i * 2 + o]? = some u) (h : k u) : IAdS 2 v (.int κ i) fun t => FAd o t fun t' => LdC S t' k := by
  refine ixA h0 hi fun a ha _ _ => ?_
  show LdC S (.pointer (some (a.add o))) k
  refine ⟨u, fun w' e => ?_, h⟩
  obtain ⟨A, c, rfl, hl, hn, hc⟩ := hs w' e
  cases A with
  | none => have := (hn rfl).1; omega
  | some b =>
    rw [ha b c rfl, add_add']
    exact hc b rfl _ u hv
end
/-- The cells of an entry in a row. -/
theorem ent_cells {w : World} {l : List (Int × List Nat)} {cells : List Value} {G : List Nat} (hr : sEn.rows w l cells G) {j : Nat} (hj : j < l.length) : ∃ q, cells[j * 2 + 0]? = some (.int .i64 l[j].1) ∧ cells[j * 2 + 1]? = some q ∧ Sl w 1 q l[j].2.length (bytes l[j].2) := by
  obtain ⟨Ga, hrd, hGa⟩ := rows_get sEn hr j hj
  have h2z : sEn.size = 2 := rfl
  rw [h2z] at hrd
  obtain ⟨_, _, _, _, hcs, _, ⟨rfl, rfl, _⟩, q, rfl, _, hq, _⟩ := hrd
  refine ⟨q, ?_, ?_, hq⟩
  · have := congrArg (fun l : List Value => l[0]?) hcs
    simpa [List.getElem?_take, List.getElem?_drop] using this
  · have := congrArg (fun l : List Value => l[1]?) hcs
    simpa [List.getElem?_take, List.getElem?_drop] using this
theorem box_m {w : World} {cs : List Value} {a : KD} {F : List Nat} {k : Value → World → Prop} (h : sKd.rd w cs a F) (hk : ∀ b sv ev F1 F2 w', cs = mCells a sv ev → sSl.rd w' [sv] a.snap F1 → sEns.rd w' [ev] a.ents F2 → F = F1 ++ F2 → w.heap.size = b → Bk w' b 67 (mCells a sv ev) → Fr [] w w' → w'.heap.size = b + 1 → k (ptr b) w') : Do Try.prog (Instr.box 67 (.agg (List.toArray cs))) w k := by
  obtain ⟨sv, ev, F1, F2, rfl, h1, h2, rfl⟩ := h
  refine box' (l := mCells a sv ev) rfl ?_
  intro b w' hb hB hF hs
  exact hk b sv ev F1 F2 w' rfl (sSl.fr h1 hF (fun i _ => by simp)) (sEns.fr h2 hF (fun i _ => by simp)) rfl hb hB hF hs
theorem KD.ext' {a b : KD} (h1 : a.term = b.term) (h2 : a.vote = b.vote) (h3 : a.base = b.base) (h4 : a.bterm = b.bterm) (h5 : a.snap = b.snap) (h6 : a.ents = b.ents) : a = b := by
  cases a; cases b; simp_all
theorem same_c {w : World} {cs1 cs2 : List Value} {a b : KD} {F1 F2 : List Nat} (h1 : sKd.rd w cs1 a F1) (h2 : sKd.rd w cs2 b F2) (wa : WfK a) (wb : WfK b) :
    CallF Try.prog 41 #[.agg (List.toArray cs1), .agg (List.toArray cs2)] w fun r w' => Fr [] w w' ∧ ∃ c, r = .bool c ∧ (c = true ↔ a = b) := by
  refine C_furlongref16_Same_link ?_
  unfold C_furlongref16_Same
  have la := wa.entL
  have lb := wb.entL
  refine box_m h1 ?_
  intro pa sva eva Fa1 Fa2 w1 _ hsa hea _ hpa hA1 hF1 hs1
  refine box_m (sKd.fr h2 hF1 (fun i _ => by simp)) ?_
  intro pb svb evb Fb1 Fb2 w2 _ hsb heb _ hpb hB2 hF2 hs2
  have hA2 := hA1.fr hF2 (by simp)
  have f02 := hF1.t hF2
  have hsa2 := sSl.fr hsa hF2 (fun i _ => by simp)
  have hea2 := sEns.fr hea hF2 (fun i _ => by simp)
  have no : ∀ {w'}, Fr [] w w' → a ≠ b → Fr [] w w' ∧ ∃ c, Value.bool false = .bool c ∧ (c = true ↔ a = b) := fun f hne => ⟨f, false, rfl, by simp [hne]⟩
  refine fad (ldC_bk hA2 rfl (fad (ldC_bk hB2 rfl (neq ?_))))
  cases hc1 : decide (a.term ≠ b.term) with
  | true =>
    repeat first | refine gdF rfl ?_ | refine gF rfl ?_ | refine pick_t rfl ?_
    exact if_t rfl (no f02 (fun e => by rw [e] at hc1; simp at hc1))
  | false =>
  refine gdT rfl (fad rfl) (gdT rfl (ldC_bk hA2 rfl rfl) (gdT rfl (fad rfl) (gdT rfl (ldC_bk hB2 rfl rfl) (gdT rfl (neq rfl) (pick_f rfl ?_)))))
  cases hc2 : decide (a.vote ≠ b.vote) with
  | true =>
    repeat first | refine gdF rfl ?_ | refine gF rfl ?_ | refine pick_t rfl ?_
    exact if_t rfl (no f02 (fun e => by rw [e] at hc2; simp at hc2))
  | false =>
  refine gdT rfl (fad rfl) (gdT rfl (ldC_bk hA2 rfl rfl) (gdT rfl (fad rfl) (gdT rfl (ldC_bk hB2 rfl rfl) (gdT rfl (neq rfl) (pick_f rfl ?_)))))
  cases hc3 : decide (a.base ≠ b.base) with
  | true =>
    repeat first | refine gdF rfl ?_ | refine gF rfl ?_ | refine pick_t rfl ?_
    exact if_t rfl (no f02 (fun e => by rw [e] at hc3; simp at hc3))
  | false =>
  refine gdT rfl (fad rfl) (gdT rfl (ldC_bk hA2 rfl rfl) (gdT rfl (fad rfl) (gdT rfl (ldC_bk hB2 rfl rfl) (gdT rfl (neq rfl) (pick_f rfl ?_)))))
  cases hc4 : decide (a.bterm ≠ b.bterm) with
  | true =>
    repeat first | refine gdF rfl ?_ | refine gF rfl ?_ | refine pick_t rfl ?_
    exact if_t rfl (no f02 (fun e => by rw [e] at hc4; simp at hc4))
  | false =>
  refine gdT rfl (fad rfl) (gdT rfl (ldC_bk hA2 rfl rfl) (gdT rfl (fad rfl) (gdT rfl (ldC_bk hB2 rfl rfl) (gT rfl ((bytes_c (sSl_sl hsa2).1 wa.s (sSl_sl hsb).1 wb.s).use ?_)))))
  rintro _ w3 ⟨rfl, hw3⟩
  rw [hw3]
  refine gdT rfl (notB rfl) (pick_f rfl ?_)
  cases hc5 : decide (a.snap = b.snap) with
  | false =>
    simp only [Bool.not_false]
    repeat first | refine gdF rfl ?_ | refine gF rfl ?_ | refine pick_t rfl ?_
    exact if_t rfl (no f02 (fun e => by rw [e] at hc5; simp at hc5))
  | true =>
  simp only [Bool.not_true]
  obtain ⟨ca, Ga, hcapa, hsla, hra, _⟩ := list_open hea2
  obtain ⟨cb, Gb, hcapb, hslb, hrb, _⟩ := list_open heb
  refine gdT rfl (fad rfl) (gdT rfl (ldC_bk hA2 rfl rfl) (gdT rfl (hsla.lenV rfl) (gdT rfl (fad rfl) (gdT rfl (ldC_bk hB2 rfl rfl) (gdT rfl (hslb.lenV rfl) (gdT rfl (neq rfl) (pick_f rfl ?_)))))))
  refine if_p (fun hc6 => no f02 (fun e => hc6 (by rw [e]))) (fun hc6 => ?_)
  have hlen : a.ents.length = b.ents.length := by omega
  refine fad (ldC_bk hA2 rfl (hsla.lenV ?_))
  refine ⟨fun m _ t w' => ∃ j : Nat, j + m = a.ents.length ∧ t = .int .i64 j ∧ Fr [] w2 w' ∧ a.ents.take j = b.ents.take j, a.ents.length, ⟨0, by omega, rfl, Fr.refl _ _, rfl⟩, ?_⟩
  rintro m _ _ w4 ⟨j, hj, rfl, hF4, htk⟩
  refine lss (if_p (fun hlt => ?_) (fun hge => ?_))
  case refine_2 =>
    refine ⟨f02.t hF4, true, rfl, ?_⟩
    rw [List.take_of_length_le (by omega), List.take_of_length_le (by omega)] at htk
    simp only [true_iff]
    exact KD.ext' (by simpa using hc1) (by simpa using hc2) (by simpa using hc3) (by simpa using hc4) (by simpa using hc5) htk
  have hja : j < a.ents.length := by omega
  have hjb : j < b.ents.length := by omega
  obtain ⟨qa, ea0, ea1, hqa⟩ := ent_cells hra hja
  obtain ⟨qb, eb0, eb1, hqb⟩ := ent_cells hrb hjb
  have hd4 := Fr.drew [] w4
  let S : World → Prop := fun w' => Bk w' pa 67 (mCells a sva eva) ∧ Bk w' pb 67 (mCells b svb evb) ∧ Sl w' 2 eva a.ents.length ca ∧ Sl w' 2 evb b.ents.length cb
  have hS : ∀ {w'}, Fr [] w2 w' → S w' := fun f => ⟨hA2.fr f (by simp), hB2.fr f (by simp), hsla.fr f (fun i _ => by simp), hslb.fr f (fun i _ => by simp)⟩
  refine ⟨S, hS (hF4.t hd4), ?_⟩
  refine fad (ldC_S (fun w' h => h.1) rfl (ixo (S := S) (fun w' h => h.2.2.1) hsla hja ea0 (fad (ldC_S (fun w' h => h.2.1) rfl (ixo (S := S) (fun w' h => h.2.2.2) hslb hjb eb0 (neq ?_))))))
  have take1 : a.ents.take (j + 1) = a.ents.take j ++ [a.ents[j]] := List.take_succ_eq_append_getElem hja
  have take2 : b.ents.take (j + 1) = b.ents.take j ++ [b.ents[j]] := List.take_succ_eq_append_getElem hjb
  have hne : a.ents[j] ≠ b.ents[j] → a ≠ b := fun hn e => hn (by subst e; rfl)
  cases hc7 : decide (a.ents[j].1 ≠ b.ents[j].1) with
  | true =>
    repeat first | refine gdF rfl ?_ | refine gF rfl ?_ | refine pick_t rfl ?_
    refine ⟨hS (hF4.t hd4), ?_⟩
    repeat first | refine gdF rfl ?_ | refine gF rfl ?_ | refine pick_t rfl ?_
    exact if_t rfl (no ((f02.t hF4).t hd4) (hne (fun e => by rw [e] at hc7; simp at hc7)))
  | false =>
  obtain ⟨a1, a2, x1, x2, x3⟩ := ixo_ex (κ := .i64) (S := S) (fun w' h => h.2.2.1) hsla hja ea1
  obtain ⟨b1, b2, y1, y2, y3⟩ := ixo_ex (κ := .i64) (S := S) (fun w' h => h.2.2.2) hslb hjb eb1
  refine gdT rfl (fad rfl) (gdT rfl (ldC_S (fun w' h => h.1) rfl rfl) (gdT rfl rfl (gdT rfl x1 (gdT rfl x2 (gdT rfl x3 ?_)))))
  refine gdT rfl (fad rfl) (gdT rfl (ldC_S (fun w' h => h.2.1) rfl rfl) (gdT rfl rfl (gdT rfl y1 (gdT rfl y2 (gdT rfl y3 ?_)))))
  have wea := (wa.e _ (List.getElem_mem hja)).2.2
  have web := (wb.e _ (List.getElem_mem hjb)).2.2
  refine gT rfl ((bytes_c ((hqa.fr hF4 (fun i _ => by simp)).fr hd4 (fun i _ => by simp)) wea ((hqb.fr hF4 (fun i _ => by simp)).fr hd4 (fun i _ => by simp)) web).use ?_)
  rintro _ w5 ⟨rfl, hw5⟩
  rw [hw5]
  refine ⟨hS (hF4.t hd4), gdT rfl (notB rfl) (pick_f rfl ?_)⟩
  refine if_b (fun hc8 => no ((f02.t hF4).t hd4) (hne (fun e => by rw [e] at hc8; simp at hc8))) (fun hc8 => ?_)
  refine add64 (by omega) ⟨m - 1, by omega, j + 1, by omega, by congr 1, hF4.t hd4, ?_⟩
  rw [take1, take2, htk]
  congr 2
  exact Prod.ext (by simpa using hc7) (by simpa using hc8)
theorem reflast_c {w : World} {cs : List Value} {k : KD} {F : List Nat} (h : sKd.rd w cs k F) (hw : WfK k) :
    CallF Try.prog 107 #[.agg (List.toArray cs)] w fun r w' => Fr [] w w' ∧ r = .int .i64 (k.base + k.ents.length) := by
  have hb := hw.b
  have hl := hw.entL
  refine C_furlongref16_Last_link ?_
  unfold C_furlongref16_Last
  refine box_m h ?_
  intro b sv ev F1 F2 w1 _ hs he _ hbb hB hF hs1
  obtain ⟨cells, G, hcap, hsl, _⟩ := list_open he
  exact fad (ldC_bk hB rfl (fad (ldC_bk hB rfl (hsl.lenV (add64 (by omega) ⟨hF, rfl⟩)))))
end Go.Proofs.Ytmlaconjeplhpaa

set_option linter.unusedVariables false
set_option linter.unusedSimpArgs false
set_option maxRecDepth 20000
namespace Go.Proofs.Ytmlaconjeplhpaa
open Go Go.Vc

theorem lit_empty {w : World} {k : Value → World → Prop} {t e : TypeId} {z : Value} {bytes size : Nat} (ht : Try.prog.underlying t = some (.slice e)) (hi : (Try.prog.info? e).map (fun i => (i.zero, i.size, i.bytes)) = some (some z, size, bytes))
    (h : ∀ v w', New w w' e size v 0 [] → k v w') : Do Try.prog (Instr.buildSlice t 0 #[]) w k := by
  refine buildSlice' (parts := []) (l := []) ht hi (by omega) (by simp [fillL, zerosL]) ?_
  intro b w' hb hB hF hs
  refine h _ w' ⟨⟨by simp, .inr ⟨b, 0, #[], rfl, Nat.zero_le _, hB, Nat.le_refl _, by unfold maxLen; omega, by simp, by simp⟩⟩, hF, fun i hi => by simp [fp_some] at hi; omega⟩
theorem rows_drop {α : Type} {S : Shape α} {w : World} : ∀ {l : List α} {cs : List Value} {F : List Nat} (n : Nat), S.rows w l cs F → ∃ G, S.rows w (l.drop n) (cs.drop (n * S.size)) G ∧ ∀ i ∈ G, i ∈ F
  | [], cs, F, n, h => ⟨[], by rw [h.1]; simp [Shape.rows], by simp⟩
  | a :: l, cs, F, 0, h => ⟨F, by simpa using h, fun i hi => hi⟩
  | a :: l, cs, F, n + 1, ⟨c1, c2, F1, F2, hc, hF, h1, h2⟩ => by
    obtain ⟨G, hG, hs⟩ := rows_drop n h2
    have hl := S.len h1
    refine ⟨G, ?_, fun i hi => by rw [hF]; exact List.mem_append.2 (.inr (hs i hi))⟩
    have e : (c1 ++ c2).drop ((n + 1) * S.size) = c2.drop (n * S.size) := by
      rw [Nat.add_mul, Nat.one_mul, Nat.add_comm, ← List.drop_drop, ← hl, List.drop_left, hl]
    rw [hc, e]
    exact hG
theorem mCells_one {w : World} {k : KD} {sn : List Nat} {en : List (Int × List Nat)} {sv ev : Value} {F1 F2 : List Nat} (h1 : sSl.rd w [sv] sn F1) (h2 : sEns.rd w [ev] en F2) : ∀ u ∈ mCells k sv ev, u.oneCell' = true := by
  intro u hu
  simp only [mCells, List.mem_cons, List.not_mem_nil, or_false] at hu
  rcases hu with rfl | rfl | rfl | rfl | rfl | rfl
  · rfl
  · rfl
  · rfl
  · rfl
  · exact sSl.one h1 _ (by simp)
  · exact sEns.one h2 _ (by simp)
theorem refput_c {w : World} {cs : List Value} {k : KD} {F : List Nat} {i t : Int} {x : Value} {d : List Nat} (h : sKd.rd w cs k F) (hw : WfK k) (ht : I64 t) (hx : Sl w 1 x d.length (bytes d)) (hd : d.length ≤ 1000000000) :
    CallF Try.prog 83 #[.agg (List.toArray cs), .int .i64 i, .int .i64 t, x] w fun r w' => Fr [] w w' ∧
      (badPut k i t d.length ∧ r = .tuple #[.agg (List.toArray cs), .int .i64 1] ∨ ¬ badPut k i t d.length ∧ ∃ cs' F', r = .tuple #[.agg (List.toArray cs'), .int .i64 0] ∧ sKd.rd w' cs' (k.put (i - k.base - 1).toNat t d) F' ∧ ∀ i ∈ F', i ∈ F ∨ w.heap.size ≤ i) := by
  have hwb := hw.b
  have hwl := hw.entL
  refine C_furlongref16_Put_link ?_
  unfold C_furlongref16_Put
  refine box_m h ?_
  intro bk sv ev F1 F2 w1 ecs hs1 he1 eF hbk hB1 hF1 hz1
  subst ecs
  refine alloc_n (n := 6) (by kernel_rfl) ?_
  intro br w2 lr hlr hbr hBr hF2 hz2
  have hB2 := hB1.fr hF2 (by simp)
  have hs2 := sSl.fr hs1 hF2 (fun i _ => by simp)
  have he2 := sEns.fr he1 hF2 (fun i _ => by simp)
  have f02 := hF1.t hF2
  have hone := mCells_one (k := k) hs2 he2
  have bad : ∀ {w3 : World}, Fr [] w2 w3 → badPut k i t d.length → LdA (At w3) 6 (ptr bk) fun t31 => DoU Try.prog (Instr.storeAt 67 (ptr br) t31) w3 fun _ w4 => LdA (At w4) 6 (ptr br) fun r => (fun (r : Value) (w' : World) => Fr [] w w' ∧
      (badPut k i t d.length ∧ r = .tuple #[.agg (List.toArray (mCells k sv ev)), .int .i64 1] ∨ ¬ badPut k i t d.length ∧ ∃ cs' F', r = .tuple #[.agg (List.toArray cs'), .int .i64 0] ∧ sKd.rd w' cs' (k.put (i - k.base - 1).toNat t d) F' ∧ ∀ i ∈ F', i ∈ F ∨ w.heap.size ≤ i)) (.tuple #[r, .int .i64 1]) w4 := by
    intro w3 f hb
    refine ldA_bk (hB2.fr f (by simp)) (by simp [mCells]) ?_
    refine store_all (n := 6) (vs := mCells k sv ev) (hBr.fr f (by simp)) szM hlr rfl (by omega) hone ?_
    intro w4 hB4 hF4 hz4
    exact ldA_bk hB4 (by simp [mCells]) ⟨(f02.t f).trans hF4 (fun i hi => .inr (by simp at hi; omega)), .inl ⟨hb, rfl⟩⟩
  refine fad (ldC_bk hB2 rfl (leq ?_))
  by_cases c1 : i ≤ k.base
  · have e1 : decide (i ≤ k.base) = true := by simpa using c1
    rw [e1]
    repeat first | refine gdF rfl ?_ | refine gF rfl ?_ | refine pick_t rfl ?_
    exact if_t rfl (bad (Fr.refl _ _) (.inl c1))
  have e1 : decide (i ≤ k.base) = false := by simpa using c1
  rw [e1]
  have hkd2 : sKd.rd w2 (mCells k sv ev) k (F1 ++ F2) := ⟨sv, ev, F1, F2, rfl, hs2, he2, rfl⟩
  refine gdT rfl rfl (gdT rfl (ldA_bk hB2 (by simp [mCells]) rfl) (gT rfl ((reflast_c hkd2 hw).use ?_)))
  rintro _ w3 ⟨hF3, rfl⟩
  refine gdT rfl (add64 (by omega) rfl) (gdT rfl (gtr rfl) (pick_f rfl ?_))
  by_cases c2 : k.base + k.ents.length + 1 < i
  · have e2 : decide (k.base + (k.ents.length : Int) + 1 < i) = true := by simpa using c2
    rw [e2]
    repeat first | refine gdF rfl ?_ | refine gF rfl ?_ | refine pick_t rfl ?_
    exact if_t rfl (bad hF3 (.inr (.inl c2)))
  have e2 : decide (k.base + (k.ents.length : Int) + 1 < i) = false := by simpa using c2
  rw [e2]
  refine gdT rfl rfl (gdT rfl (lss rfl) (pick_f rfl ?_))
  by_cases c3 : t < 0
  · have e3 : decide (t < 0) = true := by simpa using c3
    rw [e3]
    repeat first | refine gdF rfl ?_ | refine gF rfl ?_ | refine pick_t rfl ?_
    exact if_t rfl (bad hF3 (.inr (.inr (.inl c3))))
  have e3 : decide (t < 0) = false := by simpa using c3
  rw [e3]
  refine gdT rfl rfl (gdT rfl (hx.lenV rfl) (gdT rfl (gtr rfl) (pick_f rfl (if_p (fun c4 => bad hF3 (.inr (.inr (.inr (by omega))))) (fun c4 => ?_)))))
  have hgood : ¬ badPut k i t d.length := by unfold badPut; omega
  obtain ⟨m, hm⟩ : ∃ m : Nat, i = k.base + m + 1 := ⟨(i - k.base - 1).toNat, by omega⟩
  have hml : m ≤ k.ents.length := by omega
  have hmn : (i - k.base - 1).toNat = m := by omega
  rw [hmn]
  refine lit_empty Try.underlying65 infoN ?_
  intro v4 w4 hN4
  have f24 : Fr [] w2 w4 := hF3.t hN4.fr
  have hB4 := hB2.fr f24 (by simp)
  obtain ⟨cells, G, hcap, hsl2, hrows, hGF, _⟩ := list_open he2
  have hsl := hsl2.fr f24 (fun i _ => by simp)
  refine fad (ldC_bk hB4 rfl (fad (ldC_bk hB4 rfl (sub64 (by omega) (sub64 (by omega) ?_)))))
  rw [show i - k.base - 1 = (m : Int) by omega]
  refine slcHi hsl hcap hml ?_
  intro v5 hs5 hc5 hf5
  obtain ⟨G', hr', hG'⟩ := rows_take m hrows
  refine append' hN4 Try.underlying65 infoN rfl (by omega) hs5 (rows_one sEn hr') (by omega) (by omega) ?_
  intro v6 w6 hN6 _ _
  have f46 : Fr [] w3 w6 := hN6.fr
  refine (twin_c (hx.fr (f02.t (hF3.t f46)) (fun i _ => by simp)) hd).use ?_
  intro q w7 hN7
  have f37 : Fr [] w3 w7 := f46.t hN7.fr
  obtain ⟨Fq, hrq, hFq⟩ := own_sl hN7.own
  have hrd : sEn.rd w7 [.int .i64 t, q] (t, d) ([] ++ Fq) := ⟨[.int .i64 t], [q], [], Fq, rfl, rfl, ⟨rfl, rfl, ht⟩, hrq⟩
  refine bldN (by obtain ⟨A, c, e⟩ := hN7.own.len; exact ⟨A, _, c, e⟩) ?_
  refine lit1 Try.underlying65 infoN (by decide) (show (Value.agg (List.toArray [.int .i64 t, q])).cells.toList = [.int .i64 t, q] from rfl) rfl ?_
  intro b8 w8 hb8 hB8 hF8 _
  have hN68 := (hN6.fresh hN7.fr).fresh hF8
  refine append' hN68 Try.underlying65 infoN rfl (by omega) (Bk.slN hB8 rfl 1) (fun u hu => sEn.one hrd u hu) (by omega) (by omega) ?_
  intro v9 w9 hN9 hF89 hsub9
  have f39 : Fr [] w3 w9 := hN9.fr
  have f29 : Fr [] w2 w9 := hF3.t f39
  have hB9 := hB2.fr f29 (by simp)
  refine fad (store' hB9 (by kernel_rfl) (by simp [mCells]) (by obtain ⟨A, c, rfl⟩ := hN9.own.len; rfl) ?_)
  intro w10 hB10 hF10 hz10
  have hB10' : Bk w10 bk 67 (mCells k sv v9) := by simpa [mCells] using hB10
  refine ldA_bk hB10' (by simp [mCells]) ?_
  have hBr10 : Bk w10 br 67 lr := (hBr.fr f29 (by simp)).fr hF10 (by simp; omega)
  have f210 : Fr [bk] w2 w10 := (f29.mono (fun i hi => by simp at hi)).t hF10
  have z3 := hF3.size
  have z46 := f46.size
  have z7 := hN7.fr.size
  have z02 := f02.size
  have hnew9 := hN9.new
  have hnew7 := hN7.new
  have hFl := sKd.lt h
  have hGF' : ∀ j ∈ G', j ∈ F := fun j hj => by rw [eF]; exact List.mem_append.2 (.inr (hGF j (hG' j hj)))
  have hlt6 := hN6.own.lt
  have f710 : Fr (bk :: fp v6) w7 w10 := (((hF8.mono (fun i hi => by simp at hi)).trans hF89 (fun i hi => .inl (by simp [hi])))).trans hF10 (fun i hi => .inl (by simp at hi; simp [hi]))
  have hFqn : ∀ j ∈ Fq, w6.heap.size ≤ j := fun j hj => hnew7 j (hFq j hj)
  have hr10 := rows_fr sEn f210 hr' (fun j hj hm => by have := hFl j (hGF' j hj); simp at hm; omega)
  have hrd10 := sEn.fr hrd f710 (fun j hj hm => by
    have h1 := hFqn j (by simpa using hj)
    rcases List.mem_cons.1 hm with hm | hm
    · omega
    · have := hlt6 j hm; omega)
  have hl1 : (k.ents.take m ++ [(t, d)]).length = 0 + m + 1 := by rw [List.length_append, List.length_take]; simp; omega
  have hent10 : sEns.rd w10 [v9] (k.put m t d).ents (fp v9 ++ (G' ++ ([] ++ Fq))) := by
    refine ⟨v9, [] ++ cells.take (m * 2) ++ [.int .i64 t, q], _, rfl, hN9.own.cap, ?_, rows_snoc sEn hrd10 (by rw [List.nil_append]; exact hr10), ?_⟩
    · show Sl w10 2 v9 (k.ents.take m ++ [(t, d)]).length _
      rw [hl1]
      exact hN9.own.sl.fr hF10 (fun j hj hm => by have := hnew9 j hj; simp at hm; omega)
    · show _ = (if (k.ents.take m ++ [(t, d)]) = [] then [] else fp v9) ++ _
      rw [if_neg (by simp)]
  have hs10 := sSl.fr hs2 f210 (fun j hj hm => by have := hFl j (by rw [eF]; exact List.mem_append.2 (.inl hj)); simp at hm; omega)
  refine store_all (n := 6) (vs := mCells k sv v9) hBr10 szM hlr rfl (by omega) (mCells_one hs10 hent10) ?_
  intro w11 hB11 hF11 hz11
  have hbrn : ∀ j ∈ F1 ++ (fp v9 ++ (G' ++ ([] ++ Fq))), j ∉ [br] := fun j hj hm => by
    simp only [List.mem_append, List.nil_append] at hj
    simp at hm
    rcases hj with hj | hj | hj | hj
    · have := hFl j (by rw [eF]; exact List.mem_append.2 (.inl hj)); omega
    · have := hnew9 j hj; omega
    · have := hFl j (hGF' j hj); omega
    · have := hFqn j hj; omega
  refine ldA_bk hB11 (by simp [mCells]) ⟨?_, .inr ⟨hgood, mCells k sv v9, F1 ++ (fp v9 ++ (G' ++ ([] ++ Fq))), rfl, ⟨sv, v9, F1, _, rfl, sSl.fr hs10 hF11 (fun j hj => hbrn j (List.mem_append.2 (.inl hj))), sEns.fr hent10 hF11 (fun j hj => hbrn j (List.mem_append.2 (.inr hj))), rfl⟩, fun j hj => ?_⟩⟩
  · exact (f02.trans f210 (fun j hj => .inr (by simp at hj; omega))).trans hF11 (fun j hj => .inr (by simp at hj; omega))
  · simp only [List.mem_append, List.nil_append] at hj
    rcases hj with hj | hj | hj | hj
    · exact .inl (by rw [eF]; exact List.mem_append.2 (.inl hj))
    · exact .inr (by have := hnew9 j hj; omega)
    · exact .inl (hGF' j hj)
    · exact .inr (by have := hFqn j hj; omega)
theorem refreset_c {w : World} {cs : List Value} {k : KD} {F : List Nat} {i t : Int} {x : Value} {d : List Nat} (h : sKd.rd w cs k F) (hw : WfK k) (hi : I64 i) (ht : I64 t) (hx : Sl w 1 x d.length (bytes d)) (hd : d.length ≤ 1000000000) :
    CallF Try.prog 84 #[.agg (List.toArray cs), .int .i64 i, .int .i64 t, x] w fun r w' => Fr [] w w' ∧
      (badReset k i t ∧ r = .tuple #[.agg (List.toArray cs), .int .i64 1] ∨ ¬ badReset k i t ∧ 262144 < d.length ∧ r = .tuple #[.agg (List.toArray cs), .int .i64 3] ∨
       ¬ badReset k i t ∧ d.length ≤ 262144 ∧ ∃ cs' F', r = .tuple #[.agg (List.toArray cs'), .int .i64 0] ∧ sKd.rd w' cs' (k.reset i t d) F' ∧ ∀ i ∈ F', i ∈ F ∨ w.heap.size ≤ i) := by
  have hwb := hw.b
  have hwl := hw.entL
  refine C_furlongref16_Reset_link ?_
  unfold C_furlongref16_Reset
  refine box_m h ?_
  intro bk sv ev F1 F2 w1 ecs hs1 he1 eF hbk hB1 hF1 hz1
  subst ecs
  refine alloc_n (n := 6) (by kernel_rfl) ?_
  intro br w2 lr hlr hbr hBr hF2 hz2
  have hB2 := hB1.fr hF2 (by simp)
  have hs2 := sSl.fr hs1 hF2 (fun i _ => by simp)
  have he2 := sEns.fr he1 hF2 (fun i _ => by simp)
  have f02 := hF1.t hF2
  have hFl := sKd.lt h
  have hone := mCells_one (k := k) hs2 he2
  let Q : Value → World → Prop := fun r w' => Fr [] w w' ∧
      (badReset k i t ∧ r = .tuple #[.agg (List.toArray (mCells k sv ev)), .int .i64 1] ∨ ¬ badReset k i t ∧ 262144 < d.length ∧ r = .tuple #[.agg (List.toArray (mCells k sv ev)), .int .i64 3] ∨
       ¬ badReset k i t ∧ d.length ≤ 262144 ∧ ∃ cs' F', r = .tuple #[.agg (List.toArray cs'), .int .i64 0] ∧ sKd.rd w' cs' (k.reset i t d) F' ∧ ∀ i ∈ F', i ∈ F ∨ w.heap.size ≤ i)
  have bad : ∀ n : Int, (∀ w', Fr [] w w' → Q (.tuple #[.agg (List.toArray (mCells k sv ev)), .int .i64 n]) w') → LdA (At w2) 6 (ptr bk) fun t31 => DoU Try.prog (Instr.storeAt 67 (ptr br) t31) w2 fun _ w4 => LdA (At w4) 6 (ptr br) fun r => Q (.tuple #[r, .int .i64 n]) w4 := by
    intro n hb
    refine ldA_bk hB2 (by simp [mCells]) ?_
    refine store_all (n := 6) (vs := mCells k sv ev) hBr szM hlr rfl (by omega) hone ?_
    intro w4 hB4 hF4 hz4
    exact ldA_bk hB4 (by simp [mCells]) (hb _ (f02.trans hF4 (fun i hi => .inr (by simp at hi; omega))))
  refine fad (ldC_bk hB2 rfl (leq ?_))
  by_cases c1 : i ≤ k.base
  · have e1 : decide (i ≤ k.base) = true := by simpa using c1
    rw [e1]
    repeat first | refine gdF rfl ?_ | refine gF rfl ?_ | refine pick_t rfl ?_
    exact if_t rfl (bad 1 (fun w' f => ⟨f, .inl ⟨.inl c1, rfl⟩⟩))
  have e1 : decide (i ≤ k.base) = false := by simpa using c1
  rw [e1]
  refine gdT rfl rfl (gdT rfl (gtr rfl) (pick_f rfl ?_))
  by_cases c2 : 1152921504606846976 < i
  · have e2 : decide (1152921504606846976 < i) = true := by simpa using c2
    rw [e2]
    repeat first | refine gdF rfl ?_ | refine gF rfl ?_ | refine pick_t rfl ?_
    exact if_t rfl (bad 1 (fun w' f => ⟨f, .inl ⟨.inr (.inl c2), rfl⟩⟩))
  have e2 : decide (1152921504606846976 < i) = false := by simpa using c2
  rw [e2]
  refine gdT rfl rfl (gdT rfl (lss rfl) (pick_f rfl (if_p (fun c3 => bad 1 (fun w' f => ⟨f, .inl ⟨.inr (.inr c3), rfl⟩⟩)) (fun c3 => ?_))))
  have hgood : ¬ badReset k i t := by unfold badReset; omega
  refine hx.lenV (gtr (if_p (fun c4 => bad 3 (fun w' f => ⟨f, .inr (.inl ⟨hgood, by omega, rfl⟩)⟩)) (fun c4 => ?_)))
  obtain ⟨n, hn⟩ : ∃ n : Nat, i = k.base + n := ⟨(i - k.base).toNat, by omega⟩
  have hin : (i - k.base).toNat = n := by omega
  have hin1 : (i - k.base - 1).toNat = n - 1 := by omega
  refine ldA_bk hB2 (by simp [mCells]) ?_
  have hkd2 : sKd.rd w2 (mCells k sv ev) k (F1 ++ F2) := ⟨sv, ev, F1, F2, rfl, hs2, he2, rfl⟩
  refine (reflast_c hkd2 hw).use ?_
  rintro _ w3 ⟨hF3, rfl⟩
  have hB3 := hB2.fr hF3 (by simp)
  have he3 := sEns.fr he2 hF3 (fun i _ => by simp)
  obtain ⟨cells, G, hcap, hsl, hrows, hGF, _⟩ := list_open he3
  let ok : Bool := decide (i ≤ k.base + k.ents.length ∧ (k.ents.getD (i - k.base - 1).toNat (0, [])).1 = t)
  have z2 := f02.size
  have z3 := hF3.size
  -- what is done at last
  have fin : ∀ (lv : Value) (w4 : World) (F2' : List Nat), Fr [] w3 w4 → sEns.rd w4 [lv] (resetE k i t) F2' → (∀ j ∈ F2', j ∈ F ∨ w3.heap.size ≤ j) →
      FAd 5 (ptr bk) fun t58_44 => DoU Try.prog (Instr.storeAt 65 t58_44 lv) w4 fun u_45 w_46 =>
      FAd 2 (ptr bk) fun t60_47 => DoU Try.prog (Instr.storeAt 3 t60_47 (.int .i64 i)) w_46 fun u_48 w_49 =>
      FAd 3 (ptr bk) fun t62_50 => DoU Try.prog (Instr.storeAt 3 t62_50 (.int .i64 t)) w_49 fun u_51 w_52 =>
      CallF Try.prog 24 #[x] w_52 fun t64_53 w_54 =>
      FAd 4 (ptr bk) fun t65_55 => DoU Try.prog (Instr.storeAt 24 t65_55 t64_53) w_54 fun u_56 w_57 =>
      LdA (At w_57) 6 (ptr bk) fun t66_58 => DoU Try.prog (Instr.storeAt 67 (ptr br) t66_58) w_57 fun u_59 w_60 =>
      LdA (At w_60) 6 (ptr br) fun r_61 => Q (.tuple #[r_61, (.int .i64 0)]) w_60 := by
    intro lv w4 F2' hF4 hrd hF2'
    have f24 := hF3.t hF4
    refine fad (store' (hB2.fr f24 (by simp)) (by kernel_rfl) (by simp [mCells]) (sEns.one hrd _ (by simp)) ?_)
    intro w5 hB5 hF5 hz5
    refine fad (store' hB5 (by kernel_rfl) (by simp [mCells]) rfl ?_)
    intro w6 hB6 hF6 hz6
    refine fad (store' hB6 (by kernel_rfl) (by simp [mCells]) rfl ?_)
    intro w7 hB7 hF7 hz7
    have f47 : Fr [bk] w4 w7 := (hF5.t hF6).t hF7
    have f27 : Fr [bk] w2 w7 := (f24.mono (fun i hi => by simp at hi)).t f47
    have f07 : Fr [] w w7 := f02.trans f27 (fun i hi => .inr (by simp at hi; omega))
    have z4 := hF4.size
    have z47 := f47.size
    refine (twin_c (hx.fr f07 (fun i _ => by simp)) hd).use ?_
    intro q w8 hN8
    refine fad (store' (hB7.fr hN8.fr (by simp)) (by kernel_rfl) (by simp [mCells]) (by obtain ⟨A, c, rfl⟩ := hN8.own.len; rfl) ?_)
    intro w9 hB9 hF9 hz9
    have hB9' : Bk w9 bk 67 (mCells (k.reset i t d) q lv) := by simpa [mCells, KD.reset] using hB9
    have f29 : Fr [bk] w2 w9 := (f27.trans hN8.fr (fun i hi => by simp at hi)).t hF9
    have f49 : Fr [bk] w4 w9 := (f47.trans hN8.fr (fun i hi => by simp at hi)).t hF9
    obtain ⟨Fq, hrq, hFq⟩ := own_sl hN8.own
    have hnew8 := hN8.new
    have hFqn : ∀ j ∈ Fq, w7.heap.size ≤ j := fun j hj => hnew8 j (hFq j hj)
    have hs9 := sSl.fr hrq hF9 (fun j hj hm => by have := hFqn j hj; simp at hm; omega)
    have he9 := sEns.fr hrd f49 (fun j hj hm => by rcases hF2' j hj with h' | h'; have := hFl j h'; simp at hm; omega; simp at hm; omega)
    refine ldA_bk hB9' (by simp [mCells]) ?_
    refine store_all (n := 6) (vs := mCells (k.reset i t d) q lv) (hBr.fr f29 (by simp; omega)) szM hlr rfl (by omega) (mCells_one hs9 he9) ?_
    intro w10 hB10 hF10 hz10
    have hbrn : ∀ j ∈ Fq ++ F2', j ∉ [br] := fun j hj hm => by
      simp at hm
      rcases List.mem_append.1 hj with hj | hj
      · have := hFqn j hj; omega
      · rcases hF2' j hj with h' | h'
        · have := hFl j h'; omega
        · omega
    refine ldA_bk hB10 (by simp [mCells]) ⟨(f02.trans f29 (fun j hj => .inr (by simp at hj; omega))).trans hF10 (fun j hj => .inr (by simp at hj; omega)), .inr (.inr ⟨hgood, by omega, _, Fq ++ F2', rfl, ⟨q, lv, Fq, F2', rfl, sSl.fr hs9 hF10 (fun j hj => hbrn j (List.mem_append.2 (.inl hj))), sEns.fr he9 hF10 (fun j hj => hbrn j (List.mem_append.2 (.inr hj))), rfl⟩, fun j hj => ?_⟩)⟩
    rcases List.mem_append.1 hj with hj | hj
    · exact .inr (by have := hFqn j hj; omega)
    · exact (hF2' j hj).imp id (fun h' => by omega)
  -- which entries are left
  have tail : If (.bool ok) (FAd 5 (ptr bk) fun t49_62 => LdC (At w3) t49_62 fun t50_63 => FAd 2 (ptr bk) fun t52_64 => LdC (At w3) t52_64 fun t53_65 => Bin Try.prog (At w3) .sub 3 false false (.int .i64 i) t53_65 fun t54_66 =>
      SlcS 2 t50_63 (some t54_66) none none fun t55_67 => Do Try.prog (Builtin.append_ #[65, 65] 65 #[(.slice none 0 0), t55_67]) w3 fun t56_68 w_69 =>
      ∃ F2', Fr [] w3 w_69 ∧ sEns.rd w_69 [t56_68] (resetE k i t) F2' ∧ (∀ j ∈ F2', j ∈ F ∨ w3.heap.size ≤ j)) (∃ F2', Fr [] w3 w3 ∧ sEns.rd w3 [.slice none 0 0] (resetE k i t) F2' ∧ (∀ j ∈ F2', j ∈ F ∨ w3.heap.size ≤ j)) := by
    refine if_b (fun hok => ?_) (fun hok => ?_)
    · have hp := of_decide_eq_true hok
      have hres : resetE k i t = k.ents.drop n := by unfold resetE; rw [if_pos hp, hin]
      have hnl : n ≤ k.ents.length := by omega
      refine fad (ldC_bk hB3 rfl (fad (ldC_bk hB3 rfl (sub64 (by omega) ?_))))
      rw [show i - k.base = (n : Int) by omega]
      refine slcLo hsl hcap hnl ?_
      intro v5 hs5 hc5 hf5
      obtain ⟨G', hr', hG'⟩ := rows_drop n hrows
      have hlen : cells.length = k.ents.length * 2 := by obtain ⟨A, c, e, hl, _⟩ := hsl; exact hl
      have etk : List.take ((k.ents.length - n) * 2) (List.drop (n * 2) cells) = List.drop (n * 2) cells := List.take_of_length_le (by rw [List.length_drop, hlen, Nat.sub_mul]; omega)
      have h2z : sEn.size = 2 := rfl
      rw [h2z] at hr'
      rw [etk] at hs5
      refine append' (New.nil w3 _ 2) Try.underlying65 infoN rfl (by omega) hs5 (rows_one sEn hr') (by omega) (by omega) ?_
      intro v6 w6 hN6 _ _
      have hl : (k.ents.drop n).length = 0 + (k.ents.length - n) := by rw [List.length_drop]; omega
      refine ⟨(if k.ents.drop n = [] then [] else fp v6) ++ G', hN6.fr, ?_, fun j hj => ?_⟩
      · rw [hres]
        refine ⟨v6, _, G', rfl, hN6.own.cap, ?_, rows_fr sEn hN6.fr hr' (fun i _ => by simp), rfl⟩
        rw [hl]
        exact hN6.own.sl
      · rcases List.mem_append.1 hj with hj | hj
        · split at hj
          · cases hj
          · exact .inr (hN6.new j hj)
        · exact .inl (by rw [eF]; exact List.mem_append.2 (.inr (hGF j (hG' j hj))))
    · have hres : resetE k i t = [] := by unfold resetE; rw [if_neg (of_decide_eq_false hok)]
      refine ⟨[], Fr.refl _ _, ?_, fun j hj => (by cases hj)⟩
      rw [hres]
      exact ⟨.slice none 0 0, [], [], rfl, Nat.le_refl _, ⟨none, 0, rfl, rfl, fun _ => ⟨rfl, rfl⟩, fun a ha => by cases ha⟩, ⟨rfl, rfl⟩, rfl⟩
  refine leq ?_
  by_cases c : i ≤ k.base + (k.ents.length : Int)
  · have e4 : decide (i ≤ k.base + (k.ents.length : Int)) = true := by simpa using c
    rw [e4]
    have hjl : n - 1 < k.ents.length := by omega
    obtain ⟨q, ec0, _, _⟩ := ent_cells hrows hjl
    obtain ⟨a, b, x1, x2, x3⟩ := ixo_ex (κ := .i64) (S := At w3) (fun w' h => by rw [show w' = w3 from h]; exact hsl) hsl hjl ec0
    refine gdT rfl (fad rfl) (gdT rfl (ldC_bk hB3 rfl rfl) (gdT rfl rfl (gdT rfl (fad rfl) (gdT rfl (ldC_bk hB3 rfl rfl) (gdT rfl (sub64 (by omega) rfl) (gdT rfl (sub64 (by omega) rfl) ?_))))))
    rw [show i - k.base - 1 = ((n - 1 : Nat) : Int) by omega]
    refine gdT rfl x1 (gdT rfl x2 (gdT rfl x3 (gdT rfl rfl (gdT rfl (eql rfl) (pick_t rfl ?_)))))
    have e : decide (k.ents[n - 1].1 = t) = ok := by
      show _ = decide _
      rw [hin1, List.getD_eq_getElem?_getD, List.getElem?_eq_getElem hjl]
      simp only [Option.getD_some]
      rw [decide_eq_decide]
      exact ⟨fun h => ⟨c, h⟩, fun h => h.2⟩
    rw [e]
    refine ⟨fun lv w4 => ∃ F2', Fr [] w3 w4 ∧ sEns.rd w4 [lv] (resetE k i t) F2' ∧ (∀ j ∈ F2', j ∈ F ∨ w3.heap.size ≤ j), ?_, tail⟩
    rintro lv w4 ⟨F2', a1, a2, a3⟩
    exact fin lv w4 F2' a1 a2 a3
  · have e4 : decide (i ≤ k.base + (k.ents.length : Int)) = false := by simpa using c
    rw [e4]
    repeat first | refine gdF rfl ?_ | refine pick_f rfl ?_
    have e : false = ok := by
      show _ = decide _
      symm
      rw [decide_eq_false_iff_not]
      exact fun h => c h.1
    rw [e]
    refine ⟨fun lv w4 => ∃ F2', Fr [] w3 w4 ∧ sEns.rd w4 [lv] (resetE k i t) F2' ∧ (∀ j ∈ F2', j ∈ F ∨ w3.heap.size ≤ j), ?_, tail⟩
    rintro lv w4 ⟨F2', a1, a2, a3⟩
    exact fin lv w4 F2' a1 a2 a3
end Go.Proofs.Ytmlaconjeplhpaa
