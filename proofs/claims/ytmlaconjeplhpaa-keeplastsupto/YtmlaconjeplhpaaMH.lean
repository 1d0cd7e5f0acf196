/- The contract of (*keep.Keep).redo for a record of a vote. The contract of (*keep.Keep).redo for a record of an entry. What a keep tells: Term, Voted, Base. What a keep tells: Entry. furlongref16.New; calls of a nil keep. furlongref16.Vote. What a keep's records make of it, in plain Lean. The contract of keep.Open: what the records make of what was packed. A keep with its store on its disk: append, Vote, Sync; a crash, and Open behind it. -/
import Derived.Test.YtmlaconjeplhpaaMG
set_option linter.unusedVariables false
set_option linter.unusedSimpArgs false
set_option maxRecDepth 20000
namespace Go.Proofs.Ytmlaconjeplhpaa
open Go Go.Vc

theorem Rk.fr {w w' : World} {p n : Nat} {x : Value} {bs : List Nat} {X : List Nat} (r : Rk w p x bs n) (f : Fr X w w') (h1 : p ∉ X) (h2 : ∀ i ∈ fp x, i ∉ X) : Rk w' p x bs n := ⟨r.blk.fr f h1, r.sl.fr f h2, r.cap, r.ne, r.lt, r.len⟩
theorem redo_vote_c {w : World} {pk ps : Nat} {x sv ev : Value} {a b c d t v : Int} (hB : Bk w pk 137 [ptr ps, .int .i64 a, .int .i64 b, .int .i64 c, .int .i64 d, sv, ev])
    (hx : Sl w 1 x (wholes [1, t, v]).length (bytes (wholes [1, t, v]))) (hcx : capOk x) (hpx : pk ∉ fp x) (hxl : ∀ i ∈ fp x, i < w.heap.size) (ht : I64 t) (hv : I64 v) :
    CallF Try.prog 80 #[ptr pk, x] w fun r w' => r = .bool true ∧ Bk w' pk 137 [ptr ps, .int .i64 t, .int .i64 v, .int .i64 c, .int .i64 d, sv, ev] ∧ Fr [pk] w w' := by
  refine C_keep_Keep_redo_link ?_
  unfold C_keep_Keep_redo
  have hpk := hB.lt
  have hwl := wholes_length [1, t, v]
  have hbs : wholes [1, t, v] = wholeN 1 ++ (wholeN t ++ (wholeN v ++ [])) := by simp [wholes]
  have hlt : ∀ b ∈ wholes [1, t, v], b < 256 := by
    intro b hb
    obtain ⟨y, _, hb⟩ := List.mem_flatMap.1 hb
    exact wholeN_lt _ b hb
  obtain ⟨bs, hbse⟩ : ∃ bs, wholes [1, t, v] = bs := ⟨_, rfl⟩
  rw [hbse] at hx hbs hlt hwl
  refine bldR (by obtain ⟨A, c, e, _⟩ := hx; exact ⟨A, _, c, e⟩) ?_
  refine box' (l := [x, .int .i64 0, .bool false]) rfl ?_
  intro p w1 hp hB1 hF1 hs1
  have r0 : Rk w1 p x bs ([] : List Nat).length := ⟨hB1, hx.fr hF1 (fun i _ => by simp), hcx, fun hm => by have := hxl p hm; omega, hlt, by simp at hwl; omega⟩
  refine (rint_c (pre := []) r0 (v := 1) (post := wholeN t ++ (wholeN v ++ [])) (by rw [hbs]; rfl) (by unfold I64; omega)).use ?_
  rintro _ w2 ⟨rfl, r2, hF2⟩
  refine (rint_c r2 (v := t) (post := wholeN v ++ []) (by rw [hbs]; simp) ht).use ?_
  rintro _ w3 ⟨rfl, r3, hF3⟩
  refine (rint_c r3 (v := v) (post := []) (by rw [hbs]; simp) hv).use ?_
  rintro _ w4 ⟨rfl, r4, hF4⟩
  have e4 : ([] ++ wholeN 1 ++ wholeN t ++ wholeN v : List Nat) = bs := by rw [hbs]; simp
  rw [e4] at r4
  have g4 : Fr [p] w1 w4 := (hF2.t hF3).t hF4
  have hB4 := (hB.fr hF1 (by simp)).fr g4 (by simp; omega)
  have a4 : Fr [pk] w w4 := (hF1.mono (fun i hi => by simp at hi)).trans g4 (fun i hi => .inr (by simp at hi; omega))
  have hxpk : ∀ i ∈ fp x, i ∉ [pk] := fun i hi hm => hpx (by simp at hm; subst hm; exact hi)
  refine nilC (fad (ldC_bk r4.blk rfl (if_f rfl (eql ?_))))
  refine ⟨fun _ w' => Rk w' p x bs bs.length ∧ Bk w' pk 137 [ptr ps, .int .i64 t, .int .i64 v, .int .i64 c, .int .i64 d, sv, ev] ∧ Fr [pk] w w', ?_, if_p (fun _ => ?_) (fun h => absurd rfl h)⟩
  · rintro _ w5 ⟨r5, hB5, hF5⟩
    refine nilC (fad (ldC_bk r5.blk rfl (notB ?_)))
    refine gdT (by simp [isB]) rfl (gdT (by simp [isB]) (nilC rfl) (gdT (by simp [isB]) (fad rfl) (gdT (by simp [isB]) (ldC_bk r5.blk rfl rfl) (gdT (by simp [isB]) rfl (gdT (by simp [isB]) (r5.sl.lenV rfl) (gdT (by simp [isB]) (eql rfl) (pick_t rfl ⟨by simp, hB5, hF5⟩)))))))
  · refine nilC (fad (store' hB4 (by kernel_rfl) (by simp) rfl ?_))
    intro w5 hB5 hF5 _
    refine nilC (fad (store' hB5 (by kernel_rfl) (by simp) rfl ?_))
    intro w6 hB6 hF6 _
    exact ⟨(r4.fr hF5 (by simp; omega) hxpk).fr hF6 (by simp; omega) hxpk, by simpa using hB6, (a4.t hF5).t hF6⟩
end Go.Proofs.Ytmlaconjeplhpaa

set_option linter.unusedVariables false
set_option linter.unusedSimpArgs false
set_option maxRecDepth 20000
namespace Go.Proofs.Ytmlaconjeplhpaa
open Go Go.Vc

theorem redo_put_c {w : World} {pk ps B m : Nat} {x sv ev : Value} {a b d t : Int} {c : Nat} {data : List Nat} {ents : List (Int × List Nat)} (hB : Bk w pk 137 [ptr ps, .int .i64 a, .int .i64 b, .int .i64 c, .int .i64 d, sv, ev])
    (hg : GaE B w ev ents) (hBw : B ≤ w.heap.size) (hpB : pk < B)
    (hx : Sl w 1 x (wholes [2, (c : Int) + m + 1, t] ++ (layN data.length ++ data)).length (bytes (wholes [2, (c : Int) + m + 1, t] ++ (layN data.length ++ data)))) (hcx : capOk x) (hpx : pk ∉ fp x) (hxl : ∀ i ∈ fp x, i < w.heap.size)
    (ht : I64 t) (hc : c ≤ 1152921504606846976) (hm : m ≤ ents.length) (hn : ents.length ≤ 1000000) (hd : data.length ≤ 100000) (hdb : ∀ c ∈ data, c < 256) :
    CallF Try.prog 80 #[ptr pk, x] w fun r w' => r = .bool true ∧ ∃ ev2, Bk w' pk 137 [ptr ps, .int .i64 a, .int .i64 b, .int .i64 c, .int .i64 d, sv, ev2] ∧ GaE B w' ev2 (ents.take m ++ [(t, data)]) ∧ Fr [pk] w w' := by
  refine C_keep_Keep_redo_link ?_
  unfold C_keep_Keep_redo
  have hpk := hB.lt
  obtain ⟨i, hie⟩ : ∃ i : Int, (c : Int) + m + 1 = i := ⟨_, rfl⟩
  rw [hie] at hx
  have hiI : I64 i := by unfold I64; omega
  have hwl := wholes_length [2, i, t]
  have hll := layN_length data.length
  have hbs : wholes [2, i, t] ++ (layN data.length ++ data) = wholeN 2 ++ (wholeN i ++ (wholeN t ++ (layN data.length ++ (data ++ [])))) := by simp [wholes]
  have hlen : (wholes [2, i, t] ++ (layN data.length ++ data)).length ≤ 1000000 := by simp only [List.length_append, List.length_cons, List.length_nil] at *; omega
  have hlt : ∀ b ∈ wholes [2, i, t] ++ (layN data.length ++ data), b < 256 := by
    intro b hb
    simp only [List.mem_append] at hb
    rcases hb with hb | hb | hb
    · obtain ⟨y, _, hb⟩ := List.mem_flatMap.1 hb
      exact wholeN_lt _ b hb
    · exact layN_lt _ b hb
    · exact hdb b hb
  obtain ⟨bs, hbse⟩ : ∃ bs, wholes [2, i, t] ++ (layN data.length ++ data) = bs := ⟨_, rfl⟩
  rw [hbse] at hx hbs hlt hlen
  refine bldR (by obtain ⟨A, c, e, _⟩ := hx; exact ⟨A, _, c, e⟩) ?_
  refine box' (l := [x, .int .i64 0, .bool false]) rfl ?_
  intro p w1 hp hB1 hF1 hs1
  have r0 : Rk w1 p x bs ([] : List Nat).length := ⟨hB1, hx.fr hF1 (fun i _ => by simp), hcx, fun hm => by have := hxl p hm; omega, hlt, by omega⟩
  refine (rint_c (pre := []) r0 (v := 2) (post := wholeN i ++ (wholeN t ++ (layN data.length ++ (data ++ [])))) (by rw [hbs]; rfl) (by unfold I64; omega)).use ?_
  rintro _ w2 ⟨rfl, r2, hF2⟩
  refine (rint_c r2 (v := i) (post := wholeN t ++ (layN data.length ++ (data ++ []))) (by rw [hbs]; simp) hiI).use ?_
  rintro _ w3 ⟨rfl, r3, hF3⟩
  refine (rint_c r3 (v := t) (post := layN data.length ++ (data ++ [])) (by rw [hbs]; simp) ht).use ?_
  rintro _ w4 ⟨rfl, r4, hF4⟩
  have g4 : Fr [p] w1 w4 := (hF2.t hF3).t hF4
  have a4 : Fr [p] w w4 := (hF1.mono (fun i hi => by simp at hi)).trans g4 (fun i hi => .inl hi)
  have hB4 := hB.fr a4 (by simp; omega)
  obtain ⟨cells, G, ho, hrows, hG, hlow, hdis⟩ := hg
  have hevw := ho.lt
  have hGw := rows_lt sEn hrows
  have z1 := hF1.size
  have z4 := g4.size
  have ho4 := ho.fr a4 (fun i hi hm => by have := hevw i hi; simp at hm; omega)
  have hrows4 := rows_fr sEn a4 hrows (fun i hi hm => by have := hGw i hi; simp at hm; omega)
  have hxpk : ∀ i ∈ fp x, i ∉ [pk] := fun i hi hm => hpx (by simp at hm; subst hm; exact hi)
  refine nilC (fad (ldC_bk r4.blk rfl (if_f rfl (eql ?_))))
  refine ⟨fun _ w' => Rk w' p x bs bs.length ∧ ∃ ev2, Bk w' pk 137 [ptr ps, .int .i64 a, .int .i64 b, .int .i64 c, .int .i64 d, sv, ev2] ∧ GaE B w' ev2 (ents.take m ++ [(t, data)]) ∧ Fr [pk] w w', ?_, if_p (fun h => absurd h (by omega)) (fun _ => ?_)⟩
  · rintro _ w5 ⟨r5, ev2, hB5, hg5, hF5⟩
    refine nilC (fad (ldC_bk r5.blk rfl (notB ?_)))
    refine gdT (by simp [isB]) rfl (gdT (by simp [isB]) (nilC rfl) (gdT (by simp [isB]) (fad rfl) (gdT (by simp [isB]) (ldC_bk r5.blk rfl rfl) (gdT (by simp [isB]) rfl (gdT (by simp [isB]) (r5.sl.lenV rfl) (gdT (by simp [isB]) (eql rfl) (pick_t rfl ⟨by simp, ev2, hB5, hg5, hF5⟩)))))))
  · refine eql (gdT (by simp [isB]) rfl (gdT (by simp [isB]) rfl (gdT (by simp [isB]) (nilC rfl) (gdT (by simp [isB]) (fad rfl) (gdT (by simp [isB]) (ldC_bk hB4 rfl rfl) (gdT (by simp [isB]) (gtr rfl) (pick_t (by simp) ?_)))))))
    have hgt : isB (.bool (decide ((c : Int) < i))) true = true := by simp [isB]; omega
    refine gdT hgt rfl (gdT hgt rfl (gT hgt ((last_c hB4 ho4.sl (by omega) (by omega)).use ?_)))
    rintro _ w5 ⟨rfl, e5⟩
    rw [e5]
    refine gdT hgt (add64 (by omega) rfl) (gdT hgt (leq rfl) (pick_t (by simp; omega) (if_t (by simp; omega) ?_)))
    have hd5 : Fr [] w4 (World.drew (World.drew w4)) := (Fr.drew [] w4).t (Fr.drew [] _)
    obtain ⟨w6, hw6⟩ : ∃ w6, World.drew (World.drew w4) = w6 := ⟨_, rfl⟩
    rw [hw6] at hd5 ⊢
    have hB6 := hB4.fr hd5 (by simp)
    refine ⟨fun w' => Bk w' pk 137 [ptr ps, .int .i64 a, .int .i64 b, .int .i64 c, .int .i64 d, sv, ev], hB6, ?_⟩
    refine nilC (fad (ldC_S (fun w' h => h) rfl (nilC (fad (ldC_S (fun w' h => h) rfl (sub64 (by omega) (sub64 (by omega) (nilC (fad (ldC_S (fun w' h => h) rfl (sub64 (by omega) (sub64 (by omega) ?_))))))))))))
    rw [show i - (c : Int) - 1 = (m : Int) by omega]
    refine slc3 (ho4.sl.fr hd5 (fun i _ => by simp)) ho4.cap hm ?_
    intro A hsA hfA
    refine (rbytes_c (r4.fr hd5 (by simp) (fun i _ => by simp)) (q := data) (post := []) (by rw [hbs]; simp) (by omega)).use ?_
    rintro q w7 ⟨r7, hF7, hq7, hqn⟩
    have hp6 : p < w6.heap.size := by have := r4.blk.lt; have := hd5.size; omega
    have hB7 := hB6.fr hF7 (by simp; omega)
    refine ⟨hB7, bldE (by obtain ⟨A, c, e⟩ := hq7.len; exact ⟨A, _, c, e⟩) ?_⟩
    obtain ⟨Fq, hrq, hFq⟩ := own_sl hq7
    have hrd : sEn.rd w7 [.int .i64 t, q] (t, data) ([] ++ Fq) := ⟨[.int .i64 t], [q], [], Fq, rfl, rfl, ⟨rfl, rfl, ht⟩, hrq⟩
    refine lit1 Try.underlying135 infoE (by decide) (show (Value.agg (List.toArray [.int .i64 t, q])).cells.toList = [.int .i64 t, q] from rfl) rfl ?_
    intro b8 w8 hb8 hB8 hF8 _
    refine ⟨hB7.fr hF8 (by simp), ?_⟩
    have hevp : ∀ i ∈ fp (.slice A m m), i ∉ [p] := fun i hi hm => by have := hevw i (hfA i hi); simp at hm; omega
    refine append_full Try.underlying135 infoE rfl (by omega) ((hsA.fr hF7 hevp).fr hF8 (fun i _ => by simp)) (Bk.slN hB8 rfl 1) (fun u hu => sEn.one hrd u hu) (by omega) (by omega) (by omega) ?_
    intro ev2 w9 hN9
    have hB9 := (hB7.fr hF8 (by simp)).fr hN9.fr (by simp)
    refine ⟨hB9, ?_⟩
    refine nilC (fad (store' hB9 (by kernel_rfl) (by simp) (by obtain ⟨A, c, rfl⟩ := hN9.own.len; rfl) ?_))
    intro w10 hB10 hF10 _
    have f79 : Fr [] w7 w9 := hF8.t hN9.fr
    have z7 := hF7.size
    have z8 := hF8.size
    have f410 : Fr [pk, p] w4 w10 := (((hd5.mono (fun i hi => by simp at hi)).trans hF7 (fun i hi => .inl (by simp at hi; simp [hi]))).trans f79 (fun i hi => by simp at hi)).trans hF10 (fun i hi => .inl (by simp at hi; simp [hi]))
    have e7 : (([] ++ wholeN 2 ++ wholeN i ++ wholeN t ++ (layN data.length ++ data) : List Nat)) = bs := by rw [hbs]; simp
    rw [e7] at r7
    have hnp : ∀ i ∈ fp ev2, w8.heap.size ≤ i := hN9.new
    obtain ⟨G', hr', hG'⟩ := rows_take m hrows4
    have z5 := hd5.size
    refine ⟨((r7.fr f79 (by simp) (fun i _ => by simp)).fr hF10 (by simp; omega) hxpk), ev2, by simpa using hB10, ?_, (a4.mono (Y := [pk, p]) (fun i hi => .inl (by simp at hi; simp [hi]))).t f410 |>.trans (Fr.refl [] w10) (fun i hi => by simp at hi) |> fun f => ⟨f.os, f.tape, f.output, f.size, fun j hj hm => f.keep j hj (by simp at hm; simp; omega)⟩⟩
    have hq7lt := hq7.lt
    have z6 : w4.heap.size ≤ w6.heap.size := hd5.size
    have hl1 : (ents.take m ++ [(t, data)]).length = m + 1 := by rw [List.length_append, List.length_take]; simp; omega
    have hGp : ∀ i ∈ G', i < w.heap.size ∧ B ≤ i := fun i hi => ⟨hGw i (hG' i hi), hG i (hG' i hi)⟩
    have hpw : w.heap.size ≤ p := by omega
    have hFqn : ∀ i ∈ Fq, w6.heap.size ≤ i ∧ i < w7.heap.size := fun i hi => ⟨hqn i (hFq i hi), hq7lt i (hFq i hi)⟩
    have f610 : Fr [pk, p] w6 w10 := (((hF7.mono (fun i hi => .inl (by simp at hi; simp [hi]))).trans f79 (fun i hi => by simp at hi))).trans hF10 (fun i hi => .inl (by simp at hi; simp [hi]))
    have f710 : Fr [pk] w7 w10 := (f79.mono (fun i hi => by simp at hi)).t hF10
    have hr10 := rows_fr sEn f410 hr' (fun i hi hm => by have := hGp i hi; simp at hm; omega)
    have hrd10 := sEn.fr hrd f710 (fun i hi hm => by have := hFqn i (by simpa using hi); simp at hm; omega)
    refine ⟨_, _, ?_, rows_snoc sEn hrd10 hr10, ?_, fun i hi => by have := hnp i hi; omega, ?_⟩
    · rw [hl1]
      exact hN9.own.fr hF10 (fun i hi hm => by have := hnp i hi; simp at hm; omega)
    · intro i hi
      rcases List.mem_append.1 hi with h | h
      · exact (hGp i h).2
      · have := hFqn i (by simpa using h); omega
    · intro i hi hm
      have h1 := hnp i hi
      rcases List.mem_append.1 hm with h | h
      · have := hGp i h; omega
      · have := hFqn i (by simpa using h); omega
end Go.Proofs.Ytmlaconjeplhpaa

set_option linter.unusedVariables false
set_option linter.unusedSimpArgs false
set_option maxRecDepth 20000
namespace Go.Proofs.Ytmlaconjeplhpaa
open Go Go.Vc

section
variable {w : World} {pk ps : Nat} {sv ev : Value} {k : KD} {F1 F2 : List Nat}
theorem term_c (h : Kp w pk ps sv ev k F1 F2) : CallF Try.prog 48 #[ptr pk] w fun r w' => r = .int .i64 k.term ∧ w' = w := by
  refine C_keep_Keep_Term_link ?_
  unfold C_keep_Keep_Term
  exact ptr_eql und57 (if_f rfl (nilC (fad (ldC_bk h.blk rfl ⟨rfl, rfl⟩))))
theorem voted_c (h : Kp w pk ps sv ev k F1 F2) : CallF Try.prog 49 #[ptr pk] w fun r w' => r = .int .i64 k.vote ∧ w' = w := by
  refine C_keep_Keep_Voted_link ?_
  unfold C_keep_Keep_Voted
  exact ptr_eql und57 (if_f rfl (nilC (fad (ldC_bk h.blk rfl ⟨rfl, rfl⟩))))
theorem base_c (h : Kp w pk ps sv ev k F1 F2) (hs : k.snap.length ≤ 1000000) : CallF Try.prog 46 #[ptr pk] w fun r w' => ∃ v, r = .tuple #[.int .i64 k.base, .int .i64 k.bterm, v] ∧ Row w w' v k.snap := by
  refine C_keep_Keep_Base_link ?_
  unfold C_keep_Keep_Base
  have hd := Fr.drew [] w
  obtain ⟨hss, _⟩ := sSl_sl h.snp
  refine ptr_eql und57 (if_f rfl ?_)
  refine ⟨fun w' => Bk w' pk 137 [ptr ps, .int .i64 k.term, .int .i64 k.vote, .int .i64 k.base, .int .i64 k.bterm, sv, ev], h.blk.drew, ?_⟩
  refine nilC (fad (ldC_S (fun w' h => h) rfl (nilC (fad (ldC_S (fun w' h => h) rfl (nilC (fad (ldC_S (fun w' h => h) rfl ?_))))))))
  refine row_append (New.fresh (row_nil w) hd) (hss.fr hd (fun i _ => by simp)) (by simp; omega) ?_
  intro v1 w1 h1 _ _
  rw [List.nil_append] at h1
  exact ⟨h.blk.fr h1.fr (by simp), v1, rfl, h1⟩
end
end Go.Proofs.Ytmlaconjeplhpaa

set_option linter.unusedVariables false
set_option linter.unusedSimpArgs false
set_option maxRecDepth 20000
namespace Go.Proofs.Ytmlaconjeplhpaa
open Go Go.Vc

section
variable {w : World} {pk ps : Nat} {sv ev : Value} {k : KD} {F1 F2 : List Nat}
theorem entry_out (h : Kp w pk ps sv ev k F1 F2) {i : Int} (hb : 0 ≤ k.base ∧ k.base ≤ 1152921504606846976) (hn : k.ents.length ≤ 1000000) (hi : i ≤ k.base ∨ k.base + k.ents.length < i) :
    CallF Try.prog 47 #[ptr pk, .int .i64 i] w fun r w' => r = .tuple #[.int .i64 0, .slice none 0 0, .int .i64 8] ∧ Fr [] w w' := by
  refine C_keep_Keep_Entry_link ?_
  unfold C_keep_Keep_Entry
  obtain ⟨cells, G, hcap, hsl, hrows, _⟩ := list_open h.ent
  refine ptr_eql und57 (if_f rfl (nilC (fad (ldC_bk h.blk rfl (leq ?_)))))
  by_cases h1 : i ≤ k.base
  · have hf : isB (.bool (decide (i ≤ k.base))) false = false := by simp [isB]; omega
    exact gdF hf (gdF hf (gF hf (gdF hf (pick_t (by simp; omega) (if_t rfl ⟨rfl, Fr.refl _ _⟩)))))
  · have hf : isB (.bool (decide (i ≤ k.base))) false = true := by simp [isB]; omega
    refine gdT hf rfl (gdT hf rfl (gT hf ((last_c h.blk hsl (by omega) (by omega)).use ?_)))
    rintro _ w1 ⟨rfl, e1⟩
    rw [e1]
    exact gdT hf (gtr rfl) (pick_f (by simp; omega) (if_t (by simp; omega) ⟨rfl, Fr.drew [] w⟩))
theorem entry_in (h : Kp w pk ps sv ev k F1 F2) {i : Int} {j : Nat} (hj : j < k.ents.length) (hi : i = k.base + 1 + j) (hb : 0 ≤ k.base ∧ k.base ≤ 1152921504606846976) (hn : k.ents.length ≤ 1000000) (hd : k.ents[j].2.length ≤ 1000000) :
    CallF Try.prog 47 #[ptr pk, .int .i64 i] w fun r w' => ∃ v, r = .tuple #[.int .i64 k.ents[j].1, v, .int .i64 0] ∧ Row w w' v k.ents[j].2 := by
  refine C_keep_Keep_Entry_link ?_
  unfold C_keep_Keep_Entry
  obtain ⟨cells, G, hcap, hsl, hrows, _⟩ := list_open h.ent
  refine ptr_eql und57 (if_f rfl (nilC (fad (ldC_bk h.blk rfl (leq ?_)))))
  have hf : isB (.bool (decide (i ≤ k.base))) false = true := by simp [isB]; omega
  refine gdT hf rfl (gdT hf rfl (gT hf ((last_c h.blk hsl (by omega) (by omega)).use ?_)))
  rintro _ w1 ⟨rfl, e1⟩
  rw [e1]
  refine gdT hf (gtr rfl) (pick_f (by simp; omega) (if_f (by simp; omega) ?_))
  obtain ⟨w2, hw2⟩ : ∃ w2, World.drew (World.drew w) = w2 := ⟨_, rfl⟩
  have f2 : Fr [] w w2 := by rw [← hw2]; exact (Fr.drew [] w).t (Fr.drew [] _)
  rw [hw2]
  let S : World → Prop := fun w' => Bk w' pk 137 [ptr ps, .int .i64 k.term, .int .i64 k.vote, .int .i64 k.base, .int .i64 k.bterm, sv, ev] ∧ Sl w' 2 ev k.ents.length cells
  have hS : ∀ {w'}, Fr [] w w' → S w' := fun f => ⟨h.blk.fr f (by simp), hsl.fr f (fun i _ => by simp)⟩
  refine ⟨S, hS f2, ?_⟩
  refine nilC (fad (ldC_S (fun w' h => h.1) rfl (nilC (fad (ldC_S (fun w' h => h.1) rfl (sub64 (by omega) (sub64 (by omega) ?_)))))))
  rw [show i - k.base - 1 = (j : Int) by omega]
  obtain ⟨Gj, hrd, _⟩ := rows_get sEn hrows j hj
  have h2s : sEn.size = 2 := rfl
  rw [h2s] at hrd
  obtain ⟨_, _, _, _, hcs, _, ⟨rfl, rfl, _⟩, q, rfl, hqc, hqs, _⟩ := hrd
  have hcs' : List.take 2 (List.drop (j * 2) cells) = [.int .i64 k.ents[j].1, q] := hcs
  have hlen : cells.length = k.ents.length * 2 := by obtain ⟨A, c, e, hl, _⟩ := hsl; exact hl
  refine ixA (hsl.fr f2 (fun i _ => by simp)) hj fun a ha _ _ => ?_
  refine ⟨[.int .i64 k.ents[j].1, q], rfl, fun w' e jj u hu => ?_, ?_⟩
  · obtain ⟨A, c, hev, hl', hn', hc'⟩ := e.2
    cases A with
    | none => have := (hn' rfl).1; omega
    | some b =>
      have h2z : (sEn.size : Nat) = 2 := rfl
      rw [ha b c hev, add_add']
      rw [← hcs', List.getElem?_take] at hu
      split at hu
      · rw [List.getElem?_drop] at hu
        exact hc' b rfl _ u hu
      · cases hu
  refine alloc_n (n := 2) (by kernel_rfl) ?_
  intro be w3 l3 hl3 hb3 hB3 hF3 _
  refine ⟨hS (f2.t hF3), ?_⟩
  refine store_all (n := 2) (vs := [.int .i64 k.ents[j].1, q]) hB3 (by kernel_rfl) hl3 rfl (by omega) (fun v hv => by simp at hv; rcases hv with rfl | rfl; rfl; obtain ⟨A, c, hq⟩ := hqs; rw [hq.1]; rfl) ?_
  intro w4 hB4 hF4 _
  have f4 : Fr [] w (World.drew w4) := ((f2.t hF3).trans hF4 (fun i hi => .inr (by have := f2.size; simp at hi; omega))).t (Fr.drew [] w4)
  refine ⟨fun w' => Bk w' be 141 [.int .i64 k.ents[j].1, q], hB4.drew, ?_⟩
  refine fad (ldC_S (fun w' h => h) rfl (fad (ldC_S (fun w' h => h) rfl ?_)))
  have hqw : Sl w 1 q k.ents[j].2.length (bytes k.ents[j].2) := hqs
  refine row_append (New.fresh (row_nil w) f4) (hqw.fr f4 (fun i _ => by simp)) (by simp; omega) ?_
  intro v5 w5 h5 hF5 _
  rw [List.nil_append] at h5
  have hF5' : Fr [] (World.drew w4) w5 := hF5.mono (fun i hi => by simp [fp_nil] at hi)
  exact ⟨hB4.drew.fr hF5' (by simp), v5, rfl, h5⟩
end
end Go.Proofs.Ytmlaconjeplhpaa

set_option linter.unusedVariables false
set_option linter.unusedSimpArgs false
set_option maxRecDepth 20000
namespace Go.Proofs.Ytmlaconjeplhpaa
open Go Go.Vc

theorem refnew_c {w : World} : CallF Try.prog 75 #[] w fun r w' => r = .agg #[.int .i64 0, .int .i64 (-1), .int .i64 0, .int .i64 0, .slice none 0 0, .slice none 0 0] ∧ Fr [] w w' := by
  refine C_furlongref16_New_link ?_
  unfold C_furlongref16_New
  refine alloc_n (n := 6) (by kernel_rfl) ?_
  intro b w1 l hl hb hB hF _
  refine ⟨[.int .i64 0, .int .i64 (-1), .int .i64 0, .int .i64 0, .slice none 0 0, .slice none 0 0], by kernel_rfl, by kernel_rfl, ?_⟩
  refine store_all (n := 6) (vs := [.int .i64 0, .int .i64 (-1), .int .i64 0, .int .i64 0, .slice none 0 0, .slice none 0 0]) hB (by kernel_rfl) hl rfl (by omega) (by simp [Value.oneCell']) ?_
  intro w2 hB2 hF2 _
  exact ldA_bk hB2 (by simp) ⟨rfl, hF.trans hF2 (fun i hi => .inr (by simp at hi; omega))⟩
section
variable {w : World} {x y z : Value}
theorem nilk_vote : CallF Try.prog 35 #[.pointer none, x, y] w fun r w' => r = .int .i64 17 ∧ w' = w := by
  refine C_keep_Keep_Vote_link ?_
  unfold C_keep_Keep_Vote
  exact ptr_eql und57 (if_t rfl ⟨rfl, rfl⟩)
theorem nilk_put : CallF Try.prog 36 #[.pointer none, x, y, z] w fun r w' => r = .int .i64 17 ∧ w' = w := by
  refine C_keep_Keep_Put_link ?_
  unfold C_keep_Keep_Put
  exact ptr_eql und57 (if_t rfl ⟨rfl, rfl⟩)
theorem nilk_sync : CallF Try.prog 38 #[.pointer none] w fun r w' => r = .int .i64 17 ∧ w' = w := by
  refine C_keep_Keep_Sync_link ?_
  unfold C_keep_Keep_Sync
  exact ptr_eql und57 (if_t rfl ⟨rfl, rfl⟩)
theorem nilk_term : CallF Try.prog 48 #[.pointer none] w fun r w' => r = .int .i64 0 ∧ w' = w := by
  refine C_keep_Keep_Term_link ?_
  unfold C_keep_Keep_Term
  exact ptr_eql und57 (if_t rfl ⟨rfl, rfl⟩)
theorem nilk_voted : CallF Try.prog 49 #[.pointer none] w fun r w' => r = .int .i64 0 ∧ w' = w := by
  refine C_keep_Keep_Voted_link ?_
  unfold C_keep_Keep_Voted
  exact ptr_eql und57 (if_t rfl ⟨rfl, rfl⟩)
theorem nilk_last : CallF Try.prog 44 #[.pointer none] w fun r w' => r = .int .i64 0 ∧ w' = w := by
  refine C_keep_Keep_Last_link ?_
  unfold C_keep_Keep_Last
  exact ptr_eql und57 (if_t rfl ⟨rfl, rfl⟩)
theorem nilk_base : CallF Try.prog 46 #[.pointer none] w fun r w' => r = .tuple #[.int .i64 0, .int .i64 0, .slice none 0 0] ∧ w' = w := by
  refine C_keep_Keep_Base_link ?_
  unfold C_keep_Keep_Base
  exact ptr_eql und57 (if_t rfl ⟨rfl, rfl⟩)
theorem nilk_entry : CallF Try.prog 47 #[.pointer none, x] w fun r w' => r = .tuple #[.int .i64 0, .slice none 0 0, .int .i64 17] ∧ w' = w := by
  refine C_keep_Keep_Entry_link ?_
  unfold C_keep_Keep_Entry
  exact ptr_eql und57 (if_t rfl ⟨rfl, rfl⟩)
theorem nilk_reset : CallF Try.prog 45 #[.pointer none, x, y, z] w fun r w' => r = .int .i64 17 ∧ w' = w := by
  refine C_keep_Keep_Reset_link ?_
  unfold C_keep_Keep_Reset
  exact ptr_eql und57 (if_t rfl ⟨rfl, rfl⟩)
end
end Go.Proofs.Ytmlaconjeplhpaa

set_option linter.unusedVariables false
set_option linter.unusedSimpArgs false
set_option maxRecDepth 20000
namespace Go.Proofs.Ytmlaconjeplhpaa
open Go Go.Vc

theorem refvote_c {w : World} {t0 v0 c d t v : Int} {sv ev : Value} (h1 : sv.oneCell' = true) (h2 : ev.oneCell' = true) :
    CallF Try.prog 81 #[.agg (List.toArray [.int .i64 t0, .int .i64 v0, .int .i64 c, .int .i64 d, sv, ev]), .int .i64 t, .int .i64 v] w fun r w' => Fr [] w w' ∧
      ((t < 0 ∨ t < t0 ∨ v < -1) ∧ r = .tuple #[.agg (List.toArray [.int .i64 t0, .int .i64 v0, .int .i64 c, .int .i64 d, sv, ev]), .int .i64 1] ∨
       ¬ (t < 0 ∨ t < t0 ∨ v < -1) ∧ r = .tuple #[.agg (List.toArray [.int .i64 t, .int .i64 v, .int .i64 c, .int .i64 d, sv, ev]), .int .i64 0]) := by
  refine C_furlongref16_Vote_link ?_
  unfold C_furlongref16_Vote
  have hone : ∀ (a b : Int), ∀ u ∈ [Value.int .i64 a, .int .i64 b, .int .i64 c, .int .i64 d, sv, ev], u.oneCell' = true := by
    intro a b u hu
    simp at hu
    rcases hu with rfl | rfl | rfl | rfl | rfl | rfl <;> first | rfl | assumption
  refine box' (l := [.int .i64 t0, .int .i64 v0, .int .i64 c, .int .i64 d, sv, ev]) rfl ?_
  intro bk w1 hbk hB1 hF1 hs1
  refine alloc_n (n := 6) (by kernel_rfl) ?_
  intro br w2 l2 hl2 hbr hB2 hF2 _
  have hBk := hB1.fr hF2 (by simp)
  have hz := hF1.size
  have bad : (t < 0 ∨ t < t0 ∨ v < -1) → LdA (At w2) 6 (.pointer (some ⟨bk, 0, none⟩)) fun t20 => DoU Try.prog (Instr.storeAt 67 (.pointer (some ⟨br, 0, none⟩)) t20) w2 fun u_15 w_16 => LdA (At w_16) 6 (.pointer (some ⟨br, 0, none⟩)) fun r_17 => (fun (r : Value) (w' : World) => Fr [] w w' ∧
      ((t < 0 ∨ t < t0 ∨ v < -1) ∧ r = .tuple #[.agg (List.toArray [.int .i64 t0, .int .i64 v0, .int .i64 c, .int .i64 d, sv, ev]), .int .i64 1] ∨
       ¬ (t < 0 ∨ t < t0 ∨ v < -1) ∧ r = .tuple #[.agg (List.toArray [.int .i64 t, .int .i64 v, .int .i64 c, .int .i64 d, sv, ev]), .int .i64 0])) (Value.tuple #[r_17, (.int .i64 1)]) w_16 := by
    intro hb
    refine ldA_bk hBk (by simp) ?_
    refine store_all (n := 6) (vs := [.int .i64 t0, .int .i64 v0, .int .i64 c, .int .i64 d, sv, ev]) hB2 (by kernel_rfl) hl2 rfl (by omega) (hone _ _) ?_
    intro w3 hB3 hF3 _
    exact ldA_bk hB3 (by simp) ⟨(hF1.t hF2).trans hF3 (fun i hi => .inr (by simp at hi; omega)), .inl ⟨hb, rfl⟩⟩
  refine lss ?_
  by_cases c1 : t < 0
  · have hf : isB (.bool (decide (t < 0))) false = false := by simp [isB]; omega
    refine gdF hf (gdF hf (gdF hf (gdF hf (pick_t (by simp; omega) (gdF (by simp [isB]) (gdF (by simp [isB]) (pick_t rfl (if_t rfl (bad (.inl c1))))))))))
  have hf : isB (.bool (decide (t < 0))) false = true := by simp [isB]; omega
  refine gdT hf rfl (gdT hf (fad rfl) (gdT hf (ldC_bk hBk rfl rfl) (gdT hf (lss rfl) (pick_f (by simp; omega) ?_))))
  by_cases c2 : t < t0
  · have hf2 : isB (.bool (decide (t < t0))) false = false := by simp [isB]; omega
    refine gdF hf2 (gdF hf2 (pick_t (by simp; omega) (if_t rfl (bad (.inr (.inl c2))))))
  have hf2 : isB (.bool (decide (t < t0))) false = true := by simp [isB]; omega
  refine gdT hf2 rfl (gdT hf2 (lss rfl) (pick_f (by simp; omega) (if_p (fun c3 => bad (.inr (.inr c3))) (fun c3 => ?_))))
  refine fad (store' hBk (by kernel_rfl) (by simp) rfl ?_)
  intro w3 hB3 hF3 hs3
  refine fad (store' hB3 (by kernel_rfl) (by simp) rfl ?_)
  intro w4 hB4 hF4 hs4
  have hB4' : Bk w4 bk 67 [.int .i64 t, .int .i64 v, .int .i64 c, .int .i64 d, sv, ev] := by simpa using hB4
  have hBr := (hB2.fr hF3 (by simp; omega)).fr hF4 (by simp; omega)
  refine ldA_bk hB4' (by simp) ?_
  refine store_all (n := 6) (vs := [.int .i64 t, .int .i64 v, .int .i64 c, .int .i64 d, sv, ev]) hBr (by kernel_rfl) hl2 rfl (by omega) (hone _ _) ?_
  intro w5 hB5 hF5 _
  refine ldA_bk hB5 (by simp) ⟨?_, .inr ⟨by omega, rfl⟩⟩
  exact (((hF1.t hF2).trans hF3 (fun i hi => .inr (by simp at hi; omega))).trans hF4 (fun i hi => .inr (by simp at hi; omega))).trans hF5 (fun i hi => .inr (by simp at hi; omega))
end Go.Proofs.Ytmlaconjeplhpaa

set_option linter.unusedVariables false
set_option linter.unusedSimpArgs false
set_option maxRecDepth 20000
namespace Go.Proofs.Ytmlaconjeplhpaa
open Go Go.Vc

def KD.new : KD := ⟨0, -1, 0, 0, [], []⟩
/-- A bound of what a keep's bytes take. -/
def ksz (k : KD) : Nat := k.snap.length + (k.ents.map fun e => e.2.length + 100).sum + 100
structure WfK (k : KD) : Prop where
  i : I64 k.term ∧ I64 k.vote ∧ I64 k.base ∧ I64 k.bterm
  b : 0 ≤ k.base ∧ k.base ≤ 1152921504606846976
  s : ∀ c ∈ k.snap, c < 256
  e : ∀ e ∈ k.ents, I64 e.1 ∧ e.2.length ≤ 60000 ∧ ∀ c ∈ e.2, c < 256
  z : ksz k ≤ 500000
def voteB (t v : Int) : List Nat := wholes [1, t, v]
def putB (i t : Int) (d : List Nat) : List Nat := wholes [2, i, t] ++ (layN d.length ++ d)
def KD.voted (k : KD) (t v : Int) : KD := { k with term := t, vote := v }
def KD.put (k : KD) (m : Nat) (t : Int) (d : List Nat) : KD := { k with ents := k.ents.take m ++ [(t, d)] }
/-- A record makes of k. -/
inductive Stp : KD → List Nat → KD → Prop
  | vote (k : KD) (t v : Int) (ht : I64 t) (hv : I64 v) : Stp k (voteB t v) (k.voted t v)
  | put (k : KD) (m : Nat) (t : Int) (d : List Nat) (hm : m ≤ k.ents.length) (ht : I64 t) (hd : d.length ≤ 60000) (hb : ∀ c ∈ d, c < 256) : Stp k (putB (k.base + m + 1) t d) (k.put m t d)
/-- Records, and what is kept behind each. -/
def Path : KD → List (List Nat) → List KD → Prop
  | _, [], [] => True
  | k, p :: l, k' :: ks => Stp k p k' ∧ Path k' l ks
  | _, _, _ => False
def lastK : KD → List KD → KD
  | k, [] => k
  | _, k' :: ks => lastK k' ks
theorem Path.len : ∀ {k : KD} {l : List (List Nat)} {ks : List KD}, Path k l ks → ks.length = l.length
  | k, [], [], _ => rfl
  | k, p :: l, k' :: ks, h => by simp [Path.len h.2]
  | k, [], _ :: _, h => h.elim
  | k, _ :: _, [], h => h.elim
theorem lastK_snoc : ∀ (ks : List KD) (k k' : KD), lastK k (ks ++ [k']) = k'
  | [], k, k' => rfl
  | k1 :: ks, k, k' => lastK_snoc ks k1 k'
theorem Path.snoc : ∀ {l : List (List Nat)} {ks : List KD} {k : KD} {p : List Nat} {k' : KD}, Path k l ks → Stp (lastK k ks) p k' → Path k (l ++ [p]) (ks ++ [k'])
  | [], [], k, p, k', _, h => ⟨h, trivial⟩
  | q :: l, k1 :: ks, k, p, k', hp, h => ⟨hp.1, Path.snoc hp.2 h⟩
  | [], _ :: _, k, p, k', hp, _ => hp.elim
  | _ :: _, [], k, p, k', hp, _ => hp.elim
theorem Path.take : ∀ {l : List (List Nat)} {ks : List KD} {k : KD} (n : Nat), Path k l ks → Path k (l.take n) (ks.take n)
  | [], [], k, n, _ => by simp [Path]
  | q :: l, k1 :: ks, k, 0, hp => by simp [Path]
  | q :: l, k1 :: ks, k, n + 1, hp => by simpa [Path] using ⟨hp.1, Path.take n hp.2⟩
  | [], _ :: _, k, n, hp => hp.elim
  | _ :: _, [], k, n, hp => hp.elim
theorem lastK_eq : ∀ (ks : List KD) (k : KD), lastK k ks = (k :: ks)[ks.length]'(by simp)
  | [], k => rfl
  | k1 :: ks, k => by rw [lastK, lastK_eq ks k1]; rfl
theorem lastK_take (ks : List KD) (k : KD) (n : Nat) (hn : n ≤ ks.length) : lastK k (ks.take n) = (k :: ks)[n]'(by simp; omega) := by
  rw [lastK_eq]
  have hl : (ks.take n).length = n := by rw [List.length_take]; omega
  have h1 : k :: ks.take n = (k :: ks).take (n + 1) := rfl
  simp only [hl, h1, List.getElem_take]
theorem lastK_mem (ks : List KD) (k : KD) : lastK k ks ∈ k :: ks := by rw [lastK_eq]; exact List.getElem_mem _
/-- What was found as a snapshot is k. -/
def BaseK (whole : Bool) (snap : List Nat) (k : KD) : Prop := (whole = true ∧ snap = packB k) ∨ (whole = false ∧ snap = [] ∧ k = KD.new)
theorem voteB_length (t v : Int) : (voteB t v).length ≤ 27 := wholes_length _
theorem putB_length (i t : Int) (d : List Nat) : (putB i t d).length ≤ 36 + d.length := by
  have h1 := wholes_length [2, i, t]
  have h2 := layN_length d.length
  unfold putB
  rw [List.length_append, List.length_append]
  simp only [List.length_cons, List.length_nil] at h1
  omega
theorem entsB_size (l : List (Int × List Nat)) : (entsB l).length ≤ (l.map fun e => e.2.length + 100).sum := by
  induction l with
  | nil => simp [entsB]
  | cons e l ih =>
    have h1 := (wholeN_length e.1).2
    have h2 := (layN_length e.2.length).2
    have e' : entsB (e :: l) = entB e ++ entsB l := by simp [entsB]
    rw [e', List.length_append, List.map_cons, List.sum_cons]
    unfold entB
    simp only [List.length_append]
    omega
theorem packB_size (k : KD) : (packB k).length ≤ ksz k := by
  have h1 := wholes_length [k.term, k.vote, k.base, k.bterm]
  have h2 := (layN_length k.snap.length).2
  have h3 := (wholeN_length (k.ents.length : Int)).2
  have h4 := entsB_size k.ents
  unfold packB ksz
  simp only [List.length_append, List.length_cons, List.length_nil] at *
  omega
theorem ents_count (l : List (Int × List Nat)) : 100 * l.length ≤ (l.map fun e => e.2.length + 100).sum := by
  induction l with
  | nil => simp
  | cons e l ih => simp only [List.map_cons, List.sum_cons, List.length_cons]; omega
theorem WfK.snapL {k : KD} (h : WfK k) : k.snap.length ≤ 500000 := by have := h.z; unfold ksz at this; omega
theorem WfK.entL {k : KD} (h : WfK k) : k.ents.length ≤ 4999 := by have := h.z; have := ents_count k.ents; unfold ksz at *; omega
theorem WfK.entB {k : KD} (h : WfK k) : (entsB k.ents).length ≤ 500000 := by have := h.z; have := entsB_size k.ents; unfold ksz at *; omega
theorem WfK.packL {k : KD} (h : WfK k) : (packB k).length ≤ 500000 := Nat.le_trans (packB_size k) h.z
theorem wholes_lt (l : List Int) : ∀ b ∈ wholes l, b < 256 := by
  intro b hb
  obtain ⟨y, _, hb⟩ := List.mem_flatMap.1 hb
  exact wholeN_lt _ b hb
theorem WfK.packB {k : KD} (h : WfK k) : ∀ b ∈ packB k, b < 256 := by
  intro b hb
  unfold Go.Proofs.Ytmlaconjeplhpaa.packB at hb
  simp only [List.mem_append] at hb
  rcases hb with ((hb | hb | hb) | hb) | hb
  · exact wholes_lt _ b hb
  · exact layN_lt _ b hb
  · exact h.s b hb
  · exact wholeN_lt _ b hb
  · obtain ⟨e, he', hb⟩ := List.mem_flatMap.1 hb
    unfold Go.Proofs.Ytmlaconjeplhpaa.entB at hb
    simp only [List.mem_append] at hb
    rcases hb with hb | hb | hb
    · exact wholeN_lt _ b hb
    · exact layN_lt _ b hb
    · exact (h.e e he').2.2 b hb
theorem Stp.lt {k k' : KD} {p : List Nat} (h : Stp k p k') : (∀ b ∈ p, b < 256) ∧ p.length ≤ 60036 := by
  cases h with
  | vote t v ht hv => exact ⟨wholes_lt _, by have := voteB_length t v; omega⟩
  | put m t d hm ht hd hb =>
    refine ⟨fun b hb' => ?_, by have := putB_length (k.base + m + 1) t d; omega⟩
    unfold putB at hb'
    simp only [List.mem_append] at hb'
    rcases hb' with h | h | h
    · exact wholes_lt _ b h
    · exact layN_lt _ b h
    · exact hb b h
theorem sum_take_le (l : List (Int × List Nat)) (m : Nat) : ((l.take m).map fun e => e.2.length + 100).sum ≤ (l.map fun e => e.2.length + 100).sum := by
  conv => rhs; rw [← List.take_append_drop m l]
  rw [List.map_append, List.sum_append]
  omega
theorem ksz_put (k : KD) (m : Nat) (t : Int) (d : List Nat) : ksz (k.put m t d) ≤ ksz k + d.length + 100 := by
  have := sum_take_le k.ents m
  unfold ksz KD.put
  simp only [List.map_append, List.sum_append, List.map_cons, List.map_nil, List.sum_cons, List.sum_nil]
  omega
theorem WfK.voted {k : KD} (h : WfK k) {t v : Int} (ht : I64 t) (hv : I64 v) : WfK (k.voted t v) := ⟨⟨ht, hv, h.i.2.2⟩, h.b, h.s, h.e, h.z⟩
theorem WfK.put {k : KD} (h : WfK k) {m : Nat} {t : Int} {d : List Nat} (ht : I64 t) (hd : d.length ≤ 60000) (hb : ∀ c ∈ d, c < 256) (hz : ksz (k.put m t d) ≤ 500000) : WfK (k.put m t d) :=
  ⟨h.i, h.b, h.s, fun e he => (List.mem_append.1 he).elim (fun h' => h.e e (List.mem_of_mem_take h')) (fun h' => by rw [List.mem_singleton.1 h']; exact ⟨ht, hd, hb⟩), hz⟩
theorem WfK.new : WfK KD.new := ⟨by simp [I64, KD.new], by simp [KD.new], by simp [KD.new], by simp [KD.new], by simp [ksz, KD.new]⟩
end Go.Proofs.Ytmlaconjeplhpaa

set_option linter.unusedVariables false
set_option linter.unusedSimpArgs false
set_option maxRecDepth 20000
namespace Go.Proofs.Ytmlaconjeplhpaa
open Go Go.Vc
open St (Dsk All64 Blk pad four put4 halfN base hb walk eldest rootF openF putF rootL SInv encAll encRec)

theorem Ga.lower {α : Type} {S : Shape α} {T : TypeId} {B B' : Nat} {w : World} {v : Value} {l : List α} (h : Ga S T B w v l) (hb : B' ≤ B) : Ga S T B' w v l := by
  obtain ⟨cells, G, h1, h2, h3, h4, h5⟩ := h
  exact ⟨cells, G, h1, h2, fun i hi => Nat.le_trans hb (h3 i hi), fun i hi => Nat.le_trans hb (h4 i hi), h5⟩
/-- The cells of a keep. -/
def kCells (ps : Nat) (k : KD) (sv ev : Value) : List Value := [ptr ps, .int .i64 k.term, .int .i64 k.vote, .int .i64 k.base, .int .i64 k.bterm, sv, ev]
/-- A record is redone. -/
theorem redo_c {w : World} {pk ps B : Nat} {x sv ev : Value} {k k' : KD} {p : List Nat} (hB : Bk w pk 137 (kCells ps k sv ev)) (hg : GaE B w ev k.ents) (hBw : B ≤ w.heap.size) (hpB : pk < B) (hs : Stp k p k') (hw : WfK k)
    (hx : Sl w 1 x p.length (bytes p)) (hcx : capOk x) (hpx : pk ∉ fp x) (hxl : ∀ i ∈ fp x, i < w.heap.size) :
    CallF Try.prog 80 #[ptr pk, x] w fun r w' => r = .bool true ∧ ∃ ev2, Bk w' pk 137 (kCells ps k' sv ev2) ∧ GaE B w' ev2 k'.ents ∧ Fr [pk] w w' := by
  cases hs with
  | vote t v ht hv =>
    refine (redo_vote_c hB hx hcx hpx hxl ht hv).use ?_
    rintro _ w1 ⟨rfl, hB1, hF1⟩
    exact ⟨rfl, ev, hB1, hg.fr hF1 (by simp; omega), hF1⟩
  | put m t d hm ht hd hb =>
    obtain ⟨c, hc⟩ : ∃ c : Nat, k.base = c := ⟨k.base.toNat, by have := hw.b; omega⟩
    have hwb := hw.b
    have hwl := hw.entL
    unfold putB at hx
    rw [hc] at hx
    unfold kCells at hB
    rw [hc] at hB
    refine (redo_put_c hB hg hBw hpB hx hcx hpx hxl ht (by omega) hm (by omega) (by omega) hb).use ?_
    rintro _ w1 ⟨rfl, ev2, hB1, hg1, hF1⟩
    refine ⟨rfl, ev2, ?_, hg1, hF1⟩
    unfold kCells KD.put
    dsimp only
    rw [hc]
    exact hB1
theorem Stp.snap {k k' : KD} {p : List Nat} (h : Stp k p k') : k'.snap = k.snap := by cases h <;> rfl
theorem path_get : ∀ {l : List (List Nat)} {ks : List KD} {k : KD}, Path k l ks → ∀ (j : Nat) (hj : j < l.length) (h1 : j < (k :: ks).length) (h2 : j + 1 < (k :: ks).length), Stp (k :: ks)[j] l[j] (k :: ks)[j + 1]
  | [], [], k, _, j, hj, _, _ => by simp at hj
  | q :: l, k1 :: ks, k, hp, 0, hj, _, _ => hp.1
  | q :: l, k1 :: ks, k, hp, j + 1, hj, h1, h2 => path_get (k := k1) hp.2 j (by simpa using hj) (by simpa using h1) (by simpa using h2)
  | [], _ :: _, k, hp, _, _, _, _ => hp.elim
  | _ :: _, [], k, hp, _, _, _, _ => hp.elim

theorem kopen_c {w : World} {pd bb gen life at' : Nat} {lv : Value} {D : Dsk} {whole : Bool} {snap tail : List Nat} {list : List (List Nat)} {k0 : KD} {ks : List KD} (h : Dk w pd bb lv D) (h2 : 2 ≤ D.B.length)
    (hop : openF D.B = ⟨gen, life, whole, snap, list, at', tail⟩) (hb : BaseK whole snap k0) (hp : Path k0 list ks) (hw : ∀ k ∈ k0 :: ks, WfK k) (hcl : list.length ≤ 1000000) :
    CallF Try.prog 40 #[ptr pd] w fun r w' => ∃ pk ps tv sv ev F1 F2, r = .tuple #[ptr pk, .int .i64 0] ∧ Kp w' pk ps sv ev (lastK k0 ks) F1 F2 ∧ Sk w' ps pd bb (.slice none 0 0) tv ⟨D.B, []⟩ gen life at' list.length list.length tail ∧ Fr [pd] w w' ∧
      (∀ i, i = pk ∨ i = ps ∨ i ∈ fp tv → w.heap.size ≤ i) ∧ pk ∉ skX ps pd bb (.slice none 0 0) tv ∧ (∀ i, i = pk ∨ i ∈ skX ps pd bb (.slice none 0 0) tv → i ∉ F1 ∧ i ∉ F2) ∧ (∀ i, i ∈ F1 ∨ i ∈ F2 → w.heap.size ≤ i) := by
  refine C_keep_Open_link ?_
  unfold C_keep_Open
  refine (open_c h (.inl h2)).use ?_
  rintro r w2 ⟨ps, tv, fsv, flv, G, rfl, hsk, hsn, hls, hF2, n1, n2, n3, n4, n5, n6, n7, n8⟩
  rw [hop] at hsk hsn hls
  simp only [hop]
  dsimp only at hsk hsn hls
  refine ext0 (ext1 (ext2 ?_))
  refine alloc_n (n := 3) (by kernel_rfl) ?_
  intro bf w3 l3 hl3 hbf hB3 hF3 hs3
  refine store_all (vs := [.bool whole, fsv, flv]) hB3 und44 hl3 rfl (by omega) (found_one (s := []) hsn hls) ?_
  intro w4 hB4 hF4 hs4
  have hF24 : Fr [] w2 w4 := hF3.trans hF4 (fun i hi => .inr (by simp at hi; omega))
  refine neq (if_f (by simp) ?_)
  refine ⟨kCells ps KD.new (.slice none 0 0) (.slice none 0 0), by kernel_rfl, by kernel_rfl, ?_⟩
  refine box' (l := kCells ps KD.new (.slice none 0 0) (.slice none 0 0)) rfl ?_
  intro pk w5 hpk hB5 hF5 hs5
  have hF25 := hF24.t hF5
  have hBf5 := hB4.fr hF5 (by simp)
  have hsn5 := hsn.fr hF25 (fun i _ => by simp)
  have z24 := hF24.size
  have z2 := hF2.size
  have hsnlt := hsn.lt
  have hw0 := hw k0 (by simp)
  refine fad (ldC_bk hBf5 rfl ?_)
  refine gdB (ptr pk) (fun _ => rfl) (gdB (.pointer (some ⟨bf, 1, none⟩)) (fun _ => fad rfl) (gdB fsv (fun hg => by rw [hg]; exact ldC_bk hBf5 rfl rfl) ?_))
  refine ⟨fun v w' => (whole = true → v = .bool true) ∧ ∃ sv ev F1, Bk w' pk 137 (kCells ps k0 sv ev) ∧ sSl.rd w' [sv] k0.snap F1 ∧ (∀ i ∈ F1, pk < i) ∧ GaE (pk + 1) w' ev k0.ents ∧ Fr [pk] w5 w', fun hg => ?_, fun hg => ?_, ?_⟩
  · rw [hg]
    rcases hb with ⟨rfl, rfl⟩ | ⟨rfl, _⟩
    · have := hw0.snapL
      have := hw0.packL
      refine (unpack_c hB5 hsn5.sl hsn5.cap (fun hm => by have := hsnlt _ hm; omega) (fun i hi => by have := hsnlt i hi; omega) hw0.i (by omega) hw0.s (by omega) (fun e he => by have := hw0.e e he; exact ⟨this.1, by omega, this.2.2⟩)).use ?_
      rintro _ w6 ⟨rfl, sv, ev, hB6, hsv, hsvn, ⟨B, hB, _, hga⟩, hF6⟩
      obtain ⟨F1, hrd, hF1⟩ := own_sl hsv
      exact ⟨fun _ => rfl, sv, ev, F1, hB6, hrd, fun i hi => by have := hsvn i (hF1 i hi); omega, hga.lower (by omega), hF6⟩
    · simp [isB] at hg
  · rcases hb with ⟨rfl, rfl⟩ | ⟨rfl, _, rfl⟩
    · simp [isB] at hg
    · exact ⟨fun h => (by cases h), .slice none 0 0, .slice none 0 0, [], hB5, ⟨.slice none 0 0, rfl, Nat.le_refl _, ⟨none, 0, rfl, rfl, fun _ => ⟨rfl, rfl⟩, fun a ha => by cases ha⟩, rfl⟩, fun i hi => (by cases hi), Ga.nil _ _ _ _, Fr.refl _ _⟩
  rintro v w6 ⟨hv, sv, ev, F1, hB6, hsv6, hF1, hga6, hF6⟩
  refine gdB (.bool false) (fun hg => ?_) ?_
  · cases whole with
    | true => rw [hv rfl]; exact notB rfl
    | false => simp [isB] at hg
  have hpick : (bif whole then (bif isB (.bool whole) true then Value.bool false else undef) else .bool false) = .bool false := by cases whole <;> rfl
  show If (bif whole then (bif isB (.bool whole) true then Value.bool false else undef) else .bool false) _ _
  rw [hpick]
  refine if_f rfl ?_
  have hBf6 := hBf5.fr hF6 (by simp; omega)
  have hls5 := (sOwn.list (by decide)).fr hls hF25 (fun i _ => by simp)
  have hGlt := (sOwn.list (by decide)).lt hls
  have hls6 := (sOwn.list (by decide)).fr hls5 hF6 (fun i hi hm => by have := hGlt i hi; simp at hm; omega)
  obtain ⟨cells, Gc, hcap, hsl, hrows, hGc, hGe⟩ := list_open hls6
  have hGclt : ∀ i ∈ Gc, i < pk := fun i hi => by have := hGlt i (hGc i hi); omega
  refine fad (ldC_bk hBf6 rfl (hsl.lenV ?_))
  have hlen := hp.len
  have z6 := hF6.size
  have hpk6 := hB6.lt
  refine ⟨fun m _ _ t w' => ∃ (j : Nat) (ev : Value) (hj : j < (k0 :: ks).length), j + m = list.length ∧ t = .int .i64 j ∧ Bk w' pk 137 (kCells ps (k0 :: ks)[j] sv ev) ∧ (k0 :: ks)[j].snap = k0.snap ∧ GaE (pk + 1) w' ev (k0 :: ks)[j].ents ∧ Fr [pk] w6 w', list.length, ⟨0, ev, by simp, by omega, rfl, hB6, rfl, hga6, Fr.refl _ _⟩, ?_⟩
  rintro m _ _ _ w7 ⟨j, ev7, hjk, hj, rfl, hB7, hsnap, hga7, hF7⟩
  have z7 := hF7.size
  have hfl : ∀ (h0 : list ≠ []), ∀ i ∈ fp flv, i ∉ [pk] := fun h0 i hi hm => by
    have : i ∈ G := by rw [hGe, if_neg h0]; exact List.mem_append.2 (.inl hi)
    have := hGlt i this
    simp at hm; omega
  refine lss (if_p (fun hlt => ?_) (fun hge => ?_))
  · have hjl : j < list.length := by omega
    have hne : list ≠ [] := by intro e; rw [e] at hjl; simp at hjl
    obtain ⟨Ge, ⟨v1, e1, s1, hGe1⟩, hGes⟩ := rows_get sOwn hrows j hjl
    have he : cells[j]? = some v1 := by
      have hs : sOwn.size = 1 := rfl
      rw [hs, Nat.mul_one] at e1
      have := congrArg (fun l : List Value => l[0]?) e1
      simpa [List.getElem?_take, List.getElem?_drop] using this
    have hv1 : ∀ i ∈ fp v1, i < pk := fun i hi => hGclt i (hGes i (by rw [hGe1]; exact hi))
    refine ix1 (hsl.fr hF7 (hfl hne)) hjl he ?_
    have s17 := s1.fr hF7 (fun i hi hm => by have := hv1 i hi; simp at hm; omega)
    have hj1 : j + 1 < (k0 :: ks).length := by simp; omega
    have hst := path_get hp j hjl hjk hj1
    refine (redo_c hB7 hga7 (by omega) (by omega) hst (hw _ (List.getElem_mem _)) s17.sl s17.cap (fun hm => by have := hv1 _ hm; omega) (fun i hi => by have := hv1 i hi; omega)).use ?_
    rintro _ w8 ⟨rfl, ev8, hB8, hga8, hF8⟩
    refine notB (if_f rfl (add64 (by omega) ⟨m - 1, by omega, j + 1, ev8, hj1, by omega, by congr 1, hB8, ?_, hga8, hF7.t hF8⟩))
    rw [← hsnap, hst.snap]
  · obtain rfl : m = 0 := by omega
    have hjl : j = ks.length := by omega
    subst hjl
    rw [← lastK_eq] at hB7 hga7 hsnap
    obtain ⟨F2, hent, hF2n⟩ := hga7.rd (by decide)
    have hsv7 := sSl.fr hsv6 hF7 (fun i hi hm => by have := hF1 i hi; simp at hm; omega)
    have hF57 : Fr [pk] w5 w7 := hF6.t hF7
    have hF27 : Fr [] w2 w7 := hF25.trans hF57 (fun i hi => .inr (by simp at hi; omega))
    have hskl := hsk.lt
    refine ⟨pk, ps, tv, sv, ev7, F1, F2, rfl, ⟨hB7, by rw [hsnap]; exact hsv7, hent, (hw _ (lastK_mem ks k0)).i⟩, hsk.fresh hF27, hF2.trans hF27 (fun i hi => by simp at hi), ?_, fun hm => by have := hskl _ hm; omega, ?_, ?_⟩
    · rintro i (rfl | rfl | hi)
      · omega
      · exact n1
      · exact n2 i hi
    · rintro i hi
      have hil : i ≤ pk := by
        rcases hi with rfl | hi
        · exact Nat.le_refl _
        · have := hskl i hi; omega
      exact ⟨fun hm => by have := hF1 i hm; omega, fun hm => by have := hF2n i hm; omega⟩
    · rintro i (hi | hi)
      · have := hF1 i hi; omega
      · have := hF2n i hi; omega
end Go.Proofs.Ytmlaconjeplhpaa

set_option linter.unusedVariables false
set_option linter.unusedSimpArgs false
set_option maxRecDepth 20000
namespace Go.Proofs.Ytmlaconjeplhpaa
open Go Go.Vc
open St (Dsk All64 Blk pad four put4 halfN base hb walk eldest rootF openF putF rootL SInv encAll encRec)

structure KtAt (w0 w : World) (pk ps pd bb : Nat) (lv tv sv ev : Value) (D : Dsk) (gen life at' safe : Nat) (tail : List Nat) (whole : Bool) (snap : List Nat) (list : List (List Nat)) (k0 : KD) (ks : List KD) (F1 F2 : List Nat) (cp bnd z : Nat) (Y : List Nat) : Prop where
  fr : Fr [] w0 w
  kp : Kp w pk ps sv ev (lastK k0 ks) F1 F2
  sk : Sk w ps pd bb lv tv D gen life at' list.length safe tail
  inv : SInv D gen life at' tail whole snap list safe bnd
  base : BaseK whole snap k0
  path : Path k0 list ks
  wf : ∀ k ∈ k0 :: ks, WfK k ∧ ksz k ≤ z
  tk : took snap list ≤ z
  zc : z ≤ cp
  cp5 : cp ≤ 500000 ∧ cp ≤ halfN D.B * 55
  new : ∀ i, i = pk ∨ i ∈ skX ps pd bb lv tv → w0.heap.size ≤ i
  kx : pk ∉ skX ps pd bb lv tv
  d12 : ∀ i, i = pk ∨ i ∈ skX ps pd bb lv tv → i ∉ F1 ∧ i ∉ F2
  dis : ∀ i, i = pk ∨ i ∈ skX ps pd bb lv tv → i ∉ Y
  dis2 : ∀ i ∈ Y, i ∉ F1 ∧ i ∉ F2
  ylt : ∀ i ∈ Y, i < w.heap.size
  ll : D.L.length ≤ bnd * 200000
  b : bnd ≤ 400
  cnt : list.length ≤ bnd
/-- L: what it may be behind a crash; the last is what it is. Y: blocks of others. -/
def Kt (w0 w : World) (pk pd cp bnd z : Nat) (L : List KD) (Y : List Nat) : Prop :=
  ∃ ps bb lv tv sv ev D gen life at' safe tail whole snap list k0 ks F1 F2, KtAt w0 w pk ps pd bb lv tv sv ev D gen life at' safe tail whole snap list k0 ks F1 F2 cp bnd z Y ∧ L = (k0 :: ks).drop safe
/-- Only blocks made since w0, and none of Y, have changed. -/
def Out (w0 w w' : World) (Y : List Nat) : Prop := ∃ X, Fr X w w' ∧ ∀ i ∈ X, i ∉ Y ∧ w0.heap.size ≤ i
theorem Out.of {w0 w w' : World} {Y : List Nat} (f : Fr [] w w') : Out w0 w w' Y := ⟨[], f, by simp⟩
theorem Out.trans {w0 w w' w'' : World} {Y : List Nat} (h : Out w0 w w' Y) (k : Out w0 w' w'' Y) : Out w0 w w'' Y := by
  obtain ⟨X, f, hX⟩ := h
  obtain ⟨Z, g, hZ⟩ := k
  refine ⟨X ++ Z, (f.mono (fun i hi => .inl (by simp [hi]))).trans g (fun i hi => .inl (by simp [hi])), fun i hi => ?_⟩
  rcases List.mem_append.1 hi with h | h
  · exact hX i h
  · exact hZ i h
theorem Out.bk {w0 w w' : World} {Y : List Nat} (h : Out w0 w w' Y) {b : Nat} {T : TypeId} {l : List Value} (hB : Bk w b T l) (hb : b ∈ Y ∨ b < w0.heap.size) : Bk w' b T l := by
  obtain ⟨X, f, hX⟩ := h
  exact hB.fr f (fun hm => by have := hX b hm; rcases hb with hb | hb; exact this.1 hb; omega)
theorem Out.rd {α : Type} {S : Shape α} {w0 w w' : World} {Y : List Nat} (h : Out w0 w w' Y) {cs : List Value} {a : α} {F : List Nat} (hr : S.rd w cs a F) (hb : ∀ b ∈ F, b ∈ Y ∨ b < w0.heap.size) : S.rd w' cs a F := by
  obtain ⟨X, f, hX⟩ := h
  exact S.fr hr f (fun b hi hm => by have := hX b hm; rcases hb b hi with hb | hb; exact this.1 hb; omega)
theorem Out.size {w0 w w' : World} {Y : List Nat} (h : Out w0 w w' Y) : w.heap.size ≤ w'.heap.size := by obtain ⟨X, f, hX⟩ := h; exact f.size
theorem Out.sub {w0 w w' : World} {Y Z : List Nat} (h : Out w0 w w' Y) (hs : ∀ i ∈ Z, i ∈ Y) : Out w0 w w' Z := by
  obtain ⟨X, f, hX⟩ := h
  exact ⟨X, f, fun i hi => ⟨fun hm => (hX i hi).1 (hs i hm), (hX i hi).2⟩⟩
def lastL (L : List KD) : KD := L.getLast?.getD KD.new
theorem lastL_snoc (L : List KD) (k : KD) : lastL (L ++ [k]) = k := by simp [lastL]
theorem lastL_one (k : KD) : lastL [k] = k := rfl
theorem lastL_drop {k0 : KD} {ks : List KD} {n : Nat} (h : n ≤ ks.length) : lastL ((k0 :: ks).drop n) = lastK k0 ks := by
  unfold lastL
  rw [List.getLast?_drop, if_neg (by simp; omega), lastK_eq, List.getLast?_eq_getElem?]
  simp
section
variable {w0 w : World} {pk ps pd bb : Nat} {lv tv sv ev : Value} {D : Dsk} {gen life at' safe : Nat} {tail : List Nat} {whole : Bool} {snap : List Nat} {list : List (List Nat)} {k0 : KD} {ks : List KD} {F1 F2 : List Nat} {cp bnd z : Nat} {Y : List Nat}
theorem sinv_safe (h : SInv D gen life at' tail whole snap list safe bnd) : safe ≤ list.length := by
  obtain ⟨n, j, _, _, h3, h4, _⟩ := h.hist 0 (Nat.zero_le _)
  omega
theorem KtAt.safe' (h : KtAt w0 w pk ps pd bb lv tv sv ev D gen life at' safe tail whole snap list k0 ks F1 F2 cp bnd z Y) : safe ≤ ks.length := by
  have := sinv_safe h.inv
  have := h.path.len
  omega
theorem KtAt.last (h : KtAt w0 w pk ps pd bb lv tv sv ev D gen life at' safe tail whole snap list k0 ks F1 F2 cp bnd z Y) : lastL ((k0 :: ks).drop safe) = lastK k0 ks := lastL_drop h.safe'
theorem KtAt.wfl (h : KtAt w0 w pk ps pd bb lv tv sv ev D gen life at' safe tail whole snap list k0 ks F1 F2 cp bnd z Y) : WfK (lastK k0 ks) ∧ ksz (lastK k0 ks) ≤ z := h.wf _ (lastK_mem ks k0)
theorem KtAt.fresh (h : KtAt w0 w pk ps pd bb lv tv sv ev D gen life at' safe tail whole snap list k0 ks F1 F2 cp bnd z Y) {w' : World} {Y2 : List Nat} (f : Fr [] w w') (hy : ∀ i ∈ Y2, i ∈ Y ∨ (w.heap.size ≤ i ∧ i < w'.heap.size)) : KtAt w0 w' pk ps pd bb lv tv sv ev D gen life at' safe tail whole snap list k0 ks F1 F2 cp bnd z Y2 := by
  have hlt := h.sk.lt
  have hpl := h.kp.blk.lt
  have hs := f.size
  have hF1 := sSl.lt h.kp.snp
  have hF2 := sEns.lt h.kp.ent
  exact { h with fr := h.fr.t f, kp := h.kp.fresh f, sk := h.sk.fresh f, dis2 := fun i hi => (hy i hi).elim (h.dis2 i) (fun h' => ⟨fun hm => by have := hF1 i hm; omega, fun hm => by have := hF2 i hm; omega⟩), dis := fun i hi hm => (hy i hm).elim (h.dis i hi) (fun h' => by rcases hi with rfl | hi; omega; have := hlt i hi; omega), ylt := fun i hi => (hy i hi).elim (fun h' => by have := h.ylt i h'; omega) (fun h' => h'.2) }
theorem KtAt.touch (h : KtAt w0 w pk ps pd bb lv tv sv ev D gen life at' safe tail whole snap list k0 ks F1 F2 cp bnd z Y) {w' : World} {X : List Nat} (f : Fr X w w') (hX : ∀ i ∈ X, i ∈ Y ∧ w0.heap.size ≤ i) : KtAt w0 w' pk ps pd bb lv tv sv ev D gen life at' safe tail whole snap list k0 ks F1 F2 cp bnd z Y := by
  have hs := f.size
  exact { h with fr := h.fr.trans f (fun i hi => .inr (hX i hi).2), kp := ⟨h.kp.blk.fr f (fun hm => h.dis _ (.inl rfl) (hX _ hm).1), sSl.fr h.kp.snp f (fun i hi hm => (h.dis2 i (hX i hm).1).1 hi), sEns.fr h.kp.ent f (fun i hi hm => (h.dis2 i (hX i hm).1).2 hi), h.kp.i⟩, sk := h.sk.fr f (fun i hi hm => h.dis i (.inr hi) (hX i hm).1), ylt := fun i hi => by have := h.ylt i hi; omega }
theorem KtAt.up (h : KtAt w0 w pk ps pd bb lv tv sv ev D gen life at' safe tail whole snap list k0 ks F1 F2 cp bnd z Y) {b2 z2 : Nat} (hb : bnd ≤ b2) (h2 : b2 ≤ 400) (hz : z ≤ z2) (hz2 : z2 ≤ cp) : KtAt w0 w pk ps pd bb lv tv sv ev D gen life at' safe tail whole snap list k0 ks F1 F2 cp b2 z2 Y :=
  { h with inv := SInv.mono h.inv b2 hb (by omega), wf := fun k hk => ⟨(h.wf k hk).1, Nat.le_trans (h.wf k hk).2 hz⟩, tk := Nat.le_trans h.tk hz, zc := hz2, ll := Nat.le_trans h.ll (Nat.mul_le_mul_right _ hb), b := h2, cnt := Nat.le_trans h.cnt hb }
/-- One more record. -/
theorem KtAt.grow (h : KtAt w0 w pk ps pd bb lv tv sv ev D gen life at' safe tail whole snap list k0 ks F1 F2 cp bnd z Y) {w' : World} {lv' tv' ev' : Value} {D' : Dsk} {at2 z2 : Nat} {t2 p : List Nat} {k' : KD} {F2' : List Nat} (hb : bnd < 400)
    (hk : Kp w' pk ps sv ev' k' F1 F2') (hs : Sk w' ps pd bb lv' tv' D' gen life at2 (list.length + 1) safe t2) (hi : SInv D' gen life at2 t2 whole snap (list ++ [p]) safe bnd) (hB : D'.B.length = D.B.length) (hL : D'.L.length ≤ D.L.length + 100000)
    (hst : Stp (lastK k0 ks) p k') (hwf : WfK k') (hz : ksz k' ≤ z2) (hzz : z ≤ z2) (hz2 : z2 ≤ cp) (htk : took snap list + p.length + 32 ≤ z2) (f : Fr (pk :: skX ps pd bb lv tv) w w')
    (hsub : ∀ i ∈ skX ps pd bb lv' tv', i ∈ skX ps pd bb lv tv ∨ w.heap.size ≤ i) (hF : ∀ i ∈ F2', i ∈ F2 ∨ (w.heap.size ≤ i ∧ i ∉ skX ps pd bb lv' tv')) :
    KtAt w0 w' pk ps pd bb lv' tv' sv ev' D' gen life at2 safe t2 whole snap (list ++ [p]) k0 (ks ++ [k']) F1 F2' cp (bnd + 1) z2 Y := by
  have hh : halfN D'.B = halfN D.B := by unfold halfN; rw [hB]
  have hpl := h.kp.blk.lt
  have hF1 := sSl.lt h.kp.snp
  have hF2 := sEns.lt h.kp.ent
  have hsz := f.size
  have hw0 := h.fr.size
  refine { fr := h.fr.trans f (fun i hi => .inr (h.new i (List.mem_cons.1 hi))), kp := by rw [lastK_snoc]; exact hk, sk := by rw [List.length_append]; exact hs, inv := SInv.mono hi _ (by omega) (by omega), base := h.base, path := h.path.snoc hst, wf := ?_, tk := by rw [took_snoc]; omega, zc := hz2, cp5 := by rw [hh]; exact h.cp5, new := ?_, kx := ?_, d12 := ?_, dis := ?_, dis2 := fun i hi => ⟨(h.dis2 i hi).1, fun hm => (hF i hm).elim (h.dis2 i hi).2 (fun h' => by have := h.ylt i hi; omega)⟩, ylt := fun i hi => by have := h.ylt i hi; omega, ll := ?_, b := by omega, cnt := by rw [List.length_append]; have := h.cnt; simp; omega }
  · intro k hk'
    rw [← List.cons_append] at hk'
    rcases List.mem_append.1 hk' with hk' | hk'
    · exact ⟨(h.wf k hk').1, Nat.le_trans (h.wf k hk').2 hzz⟩
    · rw [List.mem_singleton.1 hk']; exact ⟨hwf, hz⟩
  · rintro i (rfl | hi)
    · exact h.new _ (.inl rfl)
    · exact (hsub i hi).elim (fun h' => h.new i (.inr h')) (fun h' => by omega)
  · intro hm
    exact (hsub _ hm).elim h.kx (fun h' => by omega)
  · rintro i (rfl | hi)
    · exact ⟨(h.d12 _ (.inl rfl)).1, fun hm => (hF _ hm).elim (h.d12 _ (.inl rfl)).2 (fun h' => by omega)⟩
    · refine ⟨fun hm => (hsub i hi).elim (fun h' => (h.d12 i (.inr h')).1 hm) (fun h' => by have := hF1 i hm; omega), fun hm => (hF i hm).elim (fun h1 => (hsub i hi).elim (fun h' => (h.d12 i (.inr h')).2 h1) (fun h' => by have := hF2 i h1; omega)) (fun h1 => h1.2 hi)⟩
  · rintro i (rfl | hi) hy
    · exact h.dis _ (.inl rfl) hy
    · exact (hsub i hi).elim (fun h' => h.dis i (.inr h') hy) (fun h' => by have := h.ylt i hy; omega)
  · have := h.ll
    exact Nat.le_trans hL (by rw [Nat.add_mul]; omega)
theorem KtAt.out (h : KtAt w0 w pk ps pd bb lv tv sv ev D gen life at' safe tail whole snap list k0 ks F1 F2 cp bnd z Y) {w' : World} (f : Fr (pk :: skX ps pd bb lv tv) w w') : Out w0 w w' Y :=
  ⟨_, f, fun i hi => ⟨h.dis i (List.mem_cons.1 hi), h.new i (List.mem_cons.1 hi)⟩⟩
/-- The keep's append: there is room. -/
theorem kapp_c (h : KtAt w0 w pk ps pd bb lv tv sv ev D gen life at' safe tail whole snap list k0 ks F1 F2 cp bnd z Y) {x : Value} {p : List Nat} (hx : Sl w 1 x p.length (bytes p)) (hpb : ∀ c ∈ p, c < 256) (hpl : p.length ≤ 65536) (hr : took snap list + p.length + 32 ≤ cp) :
    CallF Try.prog 76 #[ptr pk, x] w fun r w' => r = .int .i64 0 ∧ ∃ D' at2 t2 lv' tv', Sk w' ps pd bb lv' tv' D' gen life at2 (list.length + 1) safe t2 ∧ SInv D' gen life at2 t2 whole snap (list ++ [p]) safe bnd ∧ D'.B.length = D.B.length ∧ D'.L.length ≤ D.L.length + 100000 ∧
      Fr (skX ps pd bb lv tv) w w' ∧ (∀ i ∈ skX ps pd bb lv' tv', i ∈ skX ps pd bb lv tv ∨ w.heap.size ≤ i) := by
  obtain ⟨hat, hatl⟩ := sinv_at h.inv
  have h2 := enc_took list
  have h3 : (encAll list).length + snap.length ≤ took snap list := by unfold took; omega
  have hdl := h.sk.dk.len
  have hhalf : halfN D.B ≤ 32768 := by unfold halfN; omega
  have hll := h.ll
  have hbb := h.b
  have hcnt := h.cnt
  have hcp := h.cp5
  have hel : (encRec p).length = 4 + p.length := by simp [encRec, put4]; omega
  refine C_keep_Keep_append_link ?_
  unfold C_keep_Keep_append
  refine nilC (fad (ldC_bk h.kp.blk rfl ((sappend_c h.sk hx hpb h.inv.tl.2 (by omega) (by have := h.inv.tl.1; omega) (by omega) (by omega)).use ?_)))
  rintro r w1 (⟨rfl, hlong, hF1⟩ | ⟨rfl, hle, hfull, hF1⟩ | ⟨rfl, hle, hfit, D', at2, t2, hput, hL', lv', tv', hsk1, hF1, hsub⟩)
  · omega
  · omega
  · obtain ⟨D2, a2, u2, hput2, hinv2, hlen2⟩ := St.sinv_append h.inv hle hpb (by omega)
    obtain ⟨rfl, e2⟩ := Prod.mk.inj (hput.symm.trans hput2)
    obtain ⟨rfl, rfl⟩ := Prod.mk.inj e2
    exact neq (if_t (by decide) ⟨rfl, _, _, _, lv', tv', hsk1, hinv2, hlen2, hL', hF1, hsub⟩)
end
section
variable {w0 w : World} {pk pd cp bnd z : Nat} {L : List KD} {Y : List Nat}
theorem Kt.frn (h : Kt w0 w pk pd cp bnd z L Y) : Fr [] w0 w := by obtain ⟨ps, bb, lv, tv, sv, ev, D, gen, life, at', safe, tail, whole, snap, list, k0, ks, F1, F2, h, rfl⟩ := h; exact h.fr
theorem Kt.ylt (h : Kt w0 w pk pd cp bnd z L Y) : ∀ i ∈ Y, i < w.heap.size := by obtain ⟨ps, bb, lv, tv, sv, ev, D, gen, life, at', safe, tail, whole, snap, list, k0, ks, F1, F2, h, rfl⟩ := h; exact h.ylt
theorem Kt.wfl (h : Kt w0 w pk pd cp bnd z L Y) : WfK (lastL L) ∧ ksz (lastL L) ≤ z := by obtain ⟨ps, bb, lv, tv, sv, ev, D, gen, life, at', safe, tail, whole, snap, list, k0, ks, F1, F2, h, rfl⟩ := h; rw [h.last]; exact h.wfl
theorem Kt.wf (h : Kt w0 w pk pd cp bnd z L Y) : ∀ k ∈ L, WfK k ∧ ksz k ≤ z := by obtain ⟨ps, bb, lv, tv, sv, ev, D, gen, life, at', safe, tail, whole, snap, list, k0, ks, F1, F2, h, rfl⟩ := h; exact fun k hk => h.wf k (List.mem_of_mem_drop hk)
theorem Kt.ne (h : Kt w0 w pk pd cp bnd z L Y) : 0 < L.length := by
  obtain ⟨ps, bb, lv, tv, sv, ev, D, gen, life, at', safe, tail, whole, snap, list, k0, ks, F1, F2, h, rfl⟩ := h
  have := h.safe'
  simp; omega
theorem Kt.step (h : Kt w0 w pk pd cp bnd z L Y) {w' : World} {Y2 : List Nat} (f : Fr [] w w') (hy : ∀ i ∈ Y2, i ∈ Y ∨ (w.heap.size ≤ i ∧ i < w'.heap.size)) : Kt w0 w' pk pd cp bnd z L Y2 := by
  obtain ⟨ps, bb, lv, tv, sv, ev, D, gen, life, at', safe, tail, whole, snap, list, k0, ks, F1, F2, h, rfl⟩ := h
  exact ⟨ps, bb, lv, tv, sv, ev, D, gen, life, at', safe, tail, whole, snap, list, k0, ks, F1, F2, h.fresh f hy, rfl⟩
theorem Kt.touch (h : Kt w0 w pk pd cp bnd z L Y) {w' : World} {X : List Nat} (f : Fr X w w') (hX : ∀ i ∈ X, i ∈ Y ∧ w0.heap.size ≤ i) : Kt w0 w' pk pd cp bnd z L Y := by
  obtain ⟨ps, bb, lv, tv, sv, ev, D, gen, life, at', safe, tail, whole, snap, list, k0, ks, F1, F2, h, rfl⟩ := h
  exact ⟨ps, bb, lv, tv, sv, ev, D, gen, life, at', safe, tail, whole, snap, list, k0, ks, F1, F2, h.touch f hX, rfl⟩
theorem Kt.up (h : Kt w0 w pk pd cp bnd z L Y) {b2 z2 : Nat} (hb : bnd ≤ b2) (h2 : b2 ≤ 400) (hz : z ≤ z2) (hz2 : z2 ≤ cp) : Kt w0 w pk pd cp b2 z2 L Y := by
  obtain ⟨ps, bb, lv, tv, sv, ev, D, gen, life, at', safe, tail, whole, snap, list, k0, ks, F1, F2, h, rfl⟩ := h
  exact ⟨ps, bb, lv, tv, sv, ev, D, gen, life, at', safe, tail, whole, snap, list, k0, ks, F1, F2, h.up hb h2 hz hz2, rfl⟩
theorem Kt.kp (h : Kt w0 w pk pd cp bnd z L Y) : ∃ ps sv ev F1 F2, Kp w pk ps sv ev (lastL L) F1 F2 := by
  obtain ⟨ps, bb, lv, tv, sv, ev, D, gen, life, at', safe, tail, whole, snap, list, k0, ks, F1, F2, h, rfl⟩ := h
  rw [h.last]
  exact ⟨ps, sv, ev, F1, F2, h.kp⟩
theorem Kt.zc (h : Kt w0 w pk pd cp bnd z L Y) : z ≤ cp ∧ cp ≤ 500000 ∧ bnd ≤ 400 := by
  obtain ⟨ps, bb, lv, tv, sv, ev, D, gen, life, at', safe, tail, whole, snap, list, k0, ks, F1, F2, h, rfl⟩ := h
  exact ⟨h.zc, h.cp5.1, h.b⟩
def badVote (k : KD) (t v : Int) : Prop := t < 0 ∨ t < k.term ∨ v < -1
theorem kvote_c (h : Kt w0 w pk pd cp bnd z L Y) (hb : bnd < 400) (hz : z + 100 ≤ cp) {t v : Int} (ht : I64 t) (hv : I64 v) :
    CallF Try.prog 35 #[ptr pk, .int .i64 t, .int .i64 v] w fun r w' => Out w0 w w' Y ∧
      (badVote (lastL L) t v ∧ r = .int .i64 1 ∧ Kt w0 w' pk pd cp (bnd + 1) (z + 100) L Y ∨ ¬ badVote (lastL L) t v ∧ r = .int .i64 0 ∧ Kt w0 w' pk pd cp (bnd + 1) (z + 100) (L ++ [(lastL L).voted t v]) Y) := by
  obtain ⟨ps, bb, lv, tv, sv, ev, D, gen, life, at', safe, tail, whole, snap, list, k0, ks, F1, F2, h, rfl⟩ := h
  rw [h.last]
  have hsafe := h.safe'
  obtain ⟨hwf, hks⟩ := h.wfl
  have hkp := h.kp
  refine C_keep_Keep_Vote_link ?_
  unfold C_keep_Keep_Vote
  have bad : badVote (lastK k0 ks) t v → Out w0 w w Y ∧ (badVote (lastK k0 ks) t v ∧ Value.int .i64 1 = .int .i64 1 ∧ Kt w0 w pk pd cp (bnd + 1) (z + 100) ((k0 :: ks).drop safe) Y ∨ ¬ badVote (lastK k0 ks) t v ∧ Value.int .i64 1 = .int .i64 0 ∧ Kt w0 w pk pd cp (bnd + 1) (z + 100) ((k0 :: ks).drop safe ++ [(lastK k0 ks).voted t v]) Y) := fun hb' =>
    ⟨.of (Fr.refl _ _), .inl ⟨hb', rfl, ps, bb, lv, tv, sv, ev, D, gen, life, at', safe, tail, whole, snap, list, k0, ks, F1, F2, h.up (by omega) (by omega) (by omega) hz, rfl⟩⟩
  refine ptr_eql und57 (if_f rfl (lss ?_))
  by_cases c1 : t < 0
  · have hf : isB (.bool (decide (t < 0))) false = false := by simp [isB]; omega
    exact gdF hf (gdF hf (gdF hf (gdF hf (gdF hf (gdF hf (pick_t (by simp; omega) (gdF (by simp [isB]) (gdF (by simp [isB]) (pick_t rfl (if_t rfl (bad (.inl c1)))))))))))) 
  have hf : isB (.bool (decide (t < 0))) false = true := by simp [isB]; omega
  refine gdT hf rfl (gdT hf rfl (gdT hf (nilC rfl) (gdT hf (fad rfl) (gdT hf (ldC_bk hkp.blk rfl rfl) (gdT hf (lss rfl) (pick_f (by simp; omega) ?_))))))
  by_cases c2 : t < (lastK k0 ks).term
  · have hf2 : isB (.bool (decide (t < (lastK k0 ks).term))) false = false := by simp [isB]; omega
    exact gdF hf2 (gdF hf2 (pick_t (by simp; omega) (if_t rfl (bad (.inr (.inl c2))))))
  have hf2 : isB (.bool (decide (t < (lastK k0 ks).term))) false = true := by simp [isB]; omega
  refine gdT hf2 rfl (gdT hf2 (lss rfl) (pick_f (by simp; omega) (if_p (fun c3 => bad (.inr (.inr c3))) (fun c3 => ?_))))
  have hgood : ¬ badVote (lastK k0 ks) t v := by unfold badVote; omega
  refine litI [1, t, v] rfl rfl (by omega) ?_
  intro y1 w1 hy1 hF1 hn1
  refine (ints_c (w0 := w1) (bs := []) (row_nil w1) hy1 (by intro x hx; simp at hx; rcases hx with rfl | rfl | rfl; unfold I64; omega; exact ht; exact hv) (by simp) (by simp)).use ?_
  rintro b2 w2 ⟨h2, _⟩
  rw [List.nil_append] at h2
  have hF02 := hF1.t h2.fr
  have hk2 := h.fresh hF02 (Y2 := Y) (fun i hi => .inl hi)
  have htk := h.tk
  have hvl := voteB_length t v
  have hst : Stp (lastK k0 ks) (voteB t v) ((lastK k0 ks).voted t v) := .vote _ _ _ ht hv
  refine (kapp_c hk2 (p := voteB t v) h2.own.sl hst.lt.1 (by omega) (by omega)).use ?_
  rintro _ w3 ⟨rfl, D', at2, t2, lv', tv', hsk3, hinv3, hlen3, hL3, hF3, hsub3⟩
  refine neq (if_f (by simp) ?_)
  have hB3 := hk2.kp.blk.fr hF3 hk2.kx
  have hpl := hk2.kp.blk.lt
  have hkx3 : pk ∉ skX ps pd bb lv' tv' := fun hm => (hsub3 _ hm).elim hk2.kx (fun h' => by omega)
  refine nilC (fad (store' hB3 (by kernel_rfl) (by simp) rfl ?_))
  intro w4 hB4 hF4 _
  refine nilC (fad (store' hB4 (by kernel_rfl) (by simp) rfl ?_))
  intro w5 hB5 hF5 _
  have hF35 : Fr [pk] w3 w5 := hF4.t hF5
  have hF25 : Fr (pk :: skX ps pd bb lv tv) w2 w5 := (hF3.mono (fun i hi => .inl (by simp [hi]))).trans hF35 (fun i hi => .inl (by simp at hi; simp [hi]))
  have hF05 : Fr (pk :: skX ps pd bb lv tv) w w5 := (hF02.mono (fun i hi => by simp at hi)).trans hF25 (fun i hi => .inl hi)
  have z2 := hF02.size
  refine ⟨h.out hF05, .inr ⟨hgood, rfl, ps, bb, lv', tv', sv, ev, D', gen, life, at2, safe, t2, whole, snap, _, k0, ks ++ [(lastK k0 ks).voted t v], F1, F2, h.grow (p := voteB t v) hb ⟨(by simpa using hB5 : Bk w5 pk 137 [ptr ps, .int .i64 t, .int .i64 v, .int .i64 (lastK k0 ks).base, .int .i64 (lastK k0 ks).bterm, sv, ev]), ?_, ?_, ⟨ht, hv, hkp.i.2.2⟩⟩ (hsk3.fr hF35 (fun i hi hm => hkx3 (by simp at hm; subst hm; exact hi))) hinv3 hlen3 hL3 hst (hwf.voted ht hv) (show ksz (lastK k0 ks) ≤ z + 100 by omega) (by omega) hz (by omega) hF05 (fun i hi => (hsub3 i hi).imp id (fun h' => by omega)) (fun i hi => .inl hi), ?_⟩⟩
  · exact sSl.fr hkp.snp hF05 (fun i hi hm => (h.d12 i (List.mem_cons.1 hm)).1 hi)
  · exact sEns.fr hkp.ent hF05 (fun i hi hm => (h.d12 i (List.mem_cons.1 hm)).2 hi)
  · rw [← List.cons_append, List.drop_append_of_le_length (by simp; omega)]
theorem ksync_c (h : Kt w0 w pk pd cp bnd z L Y) :
    CallF Try.prog 38 #[ptr pk] w fun r w' => Out w0 w w' Y ∧ r = .int .i64 0 ∧ Kt w0 w' pk pd cp bnd z [lastL L] Y := by
  obtain ⟨ps, bb, lv, tv, sv, ev, D, gen, life, at', safe, tail, whole, snap, list, k0, ks, F1, F2, h, rfl⟩ := h
  rw [h.last]
  have hkp := h.kp
  refine C_keep_Keep_Sync_link ?_
  unfold C_keep_Keep_Sync
  refine ptr_eql und57 (if_f rfl (nilC (fad (ldC_bk hkp.blk rfl ((ssync_c h.sk).use ?_)))))
  rintro _ w2 ⟨rfl, hsk2, hF2⟩
  have hF2' : Fr (pk :: skX ps pd bb lv tv) w w2 := hF2.mono (fun i hi => .inl (List.mem_cons.2 (.inr (skX_mem.2 (by simp at hi; rcases hi with h | h <;> simp [h])))))
  have hkx2 : pk ∉ [ps, pd] := fun hm => h.kx (skX_mem.2 (by simp at hm; rcases hm with h | h <;> simp [h]))
  have hsub : ∀ i ∈ skX ps pd bb (.slice none 0 0) tv, i ∈ skX ps pd bb lv tv := fun i hm => skX_mem.2 (by
      rcases skX_mem.1 hm with e | e | e | e | e
      · simp [e]
      · simp [e]
      · simp [e]
      · simp [fp_nil] at e
      · simp [e])
  have hsub' : ∀ i, i = pk ∨ i ∈ skX ps pd bb (.slice none 0 0) tv → i = pk ∨ i ∈ skX ps pd bb lv tv := fun i hi => hi.imp id (hsub i)
  have hs1 := hF2.size
  have hl := h.path.len
  refine ⟨h.out hF2', rfl, ps, bb, .slice none 0 0, tv, sv, ev, _, gen, life, at', list.length, tail, whole, snap, list, k0, ks, F1, F2, { h with fr := h.fr.trans hF2' (fun i hi => .inr (h.new i (List.mem_cons.1 hi))), kp := ⟨hkp.blk.fr hF2 hkx2, sSl.fr hkp.snp hF2' (fun i hi hm => (h.d12 i (List.mem_cons.1 hm)).1 hi), sEns.fr hkp.ent hF2' (fun i hi hm => (h.d12 i (List.mem_cons.1 hm)).2 hi), hkp.i⟩, sk := hsk2, inv := St.sinv_sync h.inv, new := fun i hi => h.new i (hsub' i hi), kx := fun hm => h.kx (hsub _ hm), d12 := fun i hi => h.d12 i (hsub' i hi), dis := fun i hi => h.dis i (hsub' i hi), ylt := fun i hi => by have := h.ylt i hi; omega, ll := Nat.zero_le _ }, ?_⟩
  rw [← hl, lastK_eq, List.drop_eq_getElem_cons (by simp), List.drop_eq_nil_of_le (by simp)]
/-- A disk on which a keep stands that was closed: opened, it is k. -/
def Cr (w0 w : World) (pd cp bnd z : Nat) (k : KD) (Y : List Nat) : Prop :=
  ∃ bb D gen life at' tail whole snap list k0 ks, Fr [] w0 w ∧ Dk w pd bb (.slice none 0 0) ⟨D, []⟩ ∧ openF D = ⟨gen, life, whole, snap, list, at', tail⟩ ∧ SInv ⟨D, []⟩ gen life at' tail whole snap list list.length bnd ∧ BaseK whole snap k0 ∧ Path k0 list ks ∧ lastK k0 ks = k ∧
    (∀ k ∈ k0 :: ks, WfK k ∧ ksz k ≤ z) ∧ took snap list ≤ z ∧ z ≤ cp ∧ cp ≤ 500000 ∧ cp ≤ halfN D * 55 ∧ w0.heap.size ≤ pd ∧ w0.heap.size ≤ bb ∧ pd ∉ Y ∧ bb ∉ Y ∧ (∀ i ∈ Y, i < w.heap.size) ∧ bnd ≤ 400 ∧ list.length ≤ bnd
theorem Cr.step {k : KD} (h : Cr w0 w pd cp bnd z k Y) {w' : World} {Y2 : List Nat} (f : Fr [] w w') (hy : ∀ i ∈ Y2, i ∈ Y ∨ (w.heap.size ≤ i ∧ i < w'.heap.size)) : Cr w0 w' pd cp bnd z k Y2 := by
  obtain ⟨bb, D, gen, life, at', tail, whole, snap, list, k0, ks, h1, h2, h3, h4, h5, h6, h7, h8, h9, h10, h11, h12, h13, h14, h15, h16, h17, h18⟩ := h
  obtain ⟨l1, l2, l3⟩ := h2.lt
  have hs := f.size
  exact ⟨bb, D, gen, life, at', tail, whole, snap, list, k0, ks, h1.t f, h2.fresh f, h3, h4, h5, h6, h7, h8, h9, h10, h11, h12, h13, h14, fun hm => (hy _ hm).elim h15 (by omega), fun hm => (hy _ hm).elim h16 (by omega), fun i hi => (hy i hi).elim (fun h' => by have := h17 i h'; omega) (fun h' => h'.2), h18⟩
theorem kcrash_c (h : Kt w0 w pk pd cp bnd z L Y) (hb : bnd < 400) (keep : Nat) :
    CallF Try.prog 39 #[ptr pd, .int .i64 keep] w fun r w' => Out w0 w w' Y ∧ r = .int .i64 0 ∧ ∃ (j : Nat) (hj : j < L.length), (keep = 0 → j = 0) ∧ Cr w0 w' pd cp (bnd + 1) z L[j] Y := by
  obtain ⟨ps, bb, lv, tv, sv, ev, D, gen, life, at', safe, tail, whole, snap, list, k0, ks, F1, F2, h, rfl⟩ := h
  have hsafe := h.safe'
  have hll := h.ll
  have hl := h.path.len
  obtain ⟨m, at2, tail2, hm1, hm2, hm3, hm4, hop, hinv2⟩ := St.sinv_crash h.inv (by omega) keep
  refine (dcrash_c h.sk.dk (by omega) keep).use ?_
  rintro _ w1 ⟨rfl, hd1, hF1⟩
  have hF1' : Fr (pk :: skX ps pd bb lv tv) w w1 := hF1.mono (fun i hi => .inl (List.mem_cons.2 (.inr (skX_mem.2 (by simp at hi; rcases hi with h | h <;> simp [h])))))
  have hml : (list.take m).length = m := by rw [List.length_take]; omega
  have hs1 := hF1.size
  have htk : took snap (list.take m) ≤ z := by
    have a1 := took_split snap (list.take m) (list.drop m)
    rw [List.take_append_drop] at a1
    have := h.tk
    omega
  refine ⟨h.out hF1', rfl, m - safe, by simp; omega, fun h0 => by rw [hm3 h0]; omega, bb, D.at keep, gen, _, at2, tail2, whole, snap, list.take m, k0, ks.take m, h.fr.trans hF1' (fun i hi => .inr (h.new i (List.mem_cons.1 hi))), hd1, hop, by rw [hml]; exact hinv2, h.base, h.path.take m, ?_, ?_, htk, h.zc, h.cp5.1, ?_, h.new _ (.inr (skX_mem.2 (by simp))), h.new _ (.inr (skX_mem.2 (by simp))), h.dis _ (.inr (skX_mem.2 (by simp))), h.dis _ (.inr (skX_mem.2 (by simp))), fun i hi => by have := h.ylt i hi; omega, by omega, by rw [hml]; have := h.cnt; omega⟩
  · rw [lastK_take ks k0 m (by omega)]
    simp only [List.getElem_drop]
    congr 1
    omega
  · intro k hk
    refine h.wf k ?_
    rcases List.mem_cons.1 hk with hk | hk
    · simp [hk]
    · exact List.mem_cons.2 (.inr (List.mem_of_mem_take hk))
  · have : halfN (D.at keep) = halfN D.B := St.halfN_at D keep
    rw [this]; exact h.cp5.2
theorem kopen2_c {k : KD} (h : Cr w0 w pd cp bnd z k Y) :
    CallF Try.prog 40 #[ptr pd] w fun r w' => Out w0 w w' Y ∧ ∃ pk, r = .tuple #[ptr pk, .int .i64 0] ∧ w.heap.size ≤ pk ∧ Kt w0 w' pk pd cp bnd z [k] Y := by
  obtain ⟨bb, D, gen, life, at', tail, whole, snap, list, k0, ks, h1, h2, h3, h4, h5, h6, h7, h8, h9, h10, h11, h12, h13, h14, h15, h16, h17, h18, h19⟩ := h
  have hlen := h4.len
  refine (kopen_c h2 (by show 2 ≤ D.length; have : D.length = (Dsk.mk D []).B.length := rfl; omega) h3 h5 h6 (fun k hk => (h8 k hk).1) (by omega)).use ?_
  rintro r w2 ⟨pk, ps, tv, sv, ev, F1, F2, rfl, hkp, hsk, hF2, n1, n2, n3, n4⟩
  have hs2 := hF2.size
  have hw := h1.size
  have hnew : ∀ i, i = pk ∨ i ∈ skX ps pd bb (.slice none 0 0) tv → i = pd ∨ i = bb ∨ w.heap.size ≤ i := by
    rintro i (hi | hi)
    · exact .inr (.inr (n1 i (.inl hi)))
    · rcases skX_mem.1 hi with e | e | e | e | e
      · exact .inr (.inr (n1 i (.inr (.inl e))))
      · exact .inl e
      · exact .inr (.inl e)
      · simp [fp_nil] at e
      · exact .inr (.inr (n1 i (.inr (.inr e))))
  have hdis : ∀ i, i = pk ∨ i ∈ skX ps pd bb (.slice none 0 0) tv → i ∉ Y := fun i hi hy => by
    rcases hnew i hi with e | e | e
    · exact h15 (e ▸ hy)
    · exact h16 (e ▸ hy)
    · have := h17 i hy; omega
  refine ⟨⟨_, hF2, fun i hi => by simp at hi; subst hi; exact ⟨h15, h13⟩⟩, pk, rfl, n1 pk (.inl rfl), ps, bb, .slice none 0 0, tv, sv, ev, _, gen, life, at', list.length, tail, whole, snap, list, k0, ks, F1, F2, { fr := h1.trans hF2 (fun i hi => .inr (by simp at hi; omega)), kp := hkp, sk := hsk, inv := h4, base := h5, path := h6, wf := h8, tk := h9, zc := h10, cp5 := ⟨h11, h12⟩, new := fun i hi => by rcases hnew i hi with e | e | e <;> omega, kx := n2, d12 := n3, dis := hdis, dis2 := fun i hi => ⟨fun hm => by have := n4 i (.inl hm); have := h17 i hi; omega, fun hm => by have := n4 i (.inr hm); have := h17 i hi; omega⟩, ylt := fun i hi => by have := h17 i hi; omega, ll := Nat.zero_le _, b := h18, cnt := h19 }, ?_⟩
  have hl := h6.len
  rw [← h7, ← hl, lastK_eq, List.drop_eq_getElem_cons (by simp), List.drop_eq_nil_of_le (by simp)]
end
end Go.Proofs.Ytmlaconjeplhpaa
