/- The contract of package store's blocks; lists that are gathered. -/
import Derived.Test.YtmlaconjeplhpaaStoreC
set_option linter.unusedVariables false
set_option linter.unusedSimpArgs false
set_option maxRecDepth 20000
namespace Go.Proofs.Ytmlaconjeplhpaa
open Go Go.Vc
open St (Dsk All64 Blk pad four put4 halfN base bGen bLife bUsed bDat hb walk)

/-- A list that is gathered by append in blocks from B on, its things too. -/
def Ga {α : Type} (S : Shape α) (T : TypeId) (B : Nat) (w : World) (v : Value) (l : List α) : Prop :=
  ∃ cells G, Own w T S.size v l.length cells ∧ S.rows w l cells G ∧ (∀ i ∈ G, B ≤ i) ∧ (∀ i ∈ fp v, B ≤ i) ∧ (∀ i ∈ fp v, i ∉ G)
section
variable {α : Type} {S : Shape α} {T : TypeId} {B : Nat} {w : World} {v : Value} {l : List α}
theorem Ga.nil (S : Shape α) (T : TypeId) (B : Nat) (w : World) : Ga S T B w (.slice none 0 0) [] := ⟨[], [], Own.nil _ _ _, ⟨rfl, rfl⟩, by simp, by simp [fp_nil], by simp [fp_nil]⟩
theorem Ga.fr {w' : World} {X : List Nat} (h : Ga S T B w v l) (f : Fr X w w') (hx : ∀ i ∈ X, i < B) : Ga S T B w' v l := by
  obtain ⟨cells, G, h1, h2, h3, h4, h5⟩ := h
  exact ⟨cells, G, h1.fr f (fun i hi hm => by have := h4 i hi; have := hx i hm; omega), rows_fr S f h2 (fun i hi hm => by have := h3 i hi; have := hx i hm; omega), h3, h4, h5⟩
theorem Ga.lt (h : Ga S T B w v l) : ∀ i ∈ fp v, i < w.heap.size := by obtain ⟨_, _, h1, _⟩ := h; exact h1.lt
theorem Ga.low (h : Ga S T B w v l) : ∀ i ∈ fp v, B ≤ i := by obtain ⟨_, _, _, _, _, h1, _⟩ := h; exact h1
theorem Ga.one (h : Ga S T B w v l) : v.oneCell' = true := by obtain ⟨_, _, h1, _⟩ := h; obtain ⟨A, c, rfl⟩ := h1.len; rfl
theorem Ga.slice (h : Ga S T B w v l) : ∃ A c, v = .slice A l.length c := by obtain ⟨_, _, h1, _⟩ := h; exact h1.len
theorem Ga.push {LT : TypeId} {z u : Value} {bytes : Nat} {a : α} {cs : List Value} {F : List Nat} {k : Value → World → Prop} (g : Ga S T B w v l) (hS0 : 0 < S.size) (hS1 : S.size ≤ 1000) (hb1 : bytes ≤ 1000) (hl : l.length ≤ 100000000) (hB : B ≤ w.heap.size)
    (ht : Try.prog.underlying LT = some (.slice T)) (hinf : (Try.prog.info? T).map (fun i => (i.zero, i.size, i.bytes)) = some (some z, S.size, bytes)) (hz : z.cells.size = S.size)
    (ha : S.rd w cs a F) (hF : ∀ i ∈ F, B ≤ i ∧ i ∉ fp v) (hu : u.cells.toList = cs) (hk : ∀ v' w', Ga S T B w' v' (l ++ [a]) → Fr (fp v) w w' → k v' w') :
    Do Try.prog (Instr.buildSlice LT 1 #[(0, u)]) w fun t13 w11 => Do Try.prog (Builtin.append_ #[LT, LT] LT #[v, t13]) w11 k := by
  obtain ⟨cells, G, h1, h2, h3, h4, h5⟩ := g
  refine lit1 ht hinf hS1 hu (S.len ha) ?_
  intro b wb hb hBk hfb hzb
  refine do_append ht hinf hz hS0 (h1.fr hfb (fun i _ => by simp)) (Bk.slN hBk (by rw [S.len ha]; omega) 1) (S.one ha) ?_ (by omega) ?_
  · have : (l.length + 1) * bytes ≤ 100000001 * 1000 := Nat.mul_le_mul (by omega) hb1
    omega
  intro v' wc ho hfc hsub
  have hGlt := rows_lt S h2
  have hFlt := S.lt ha
  have fc : Fr (fp v) w wc := (hfb.mono (fun i hi => by simp at hi)).t hfc
  have hGv : ∀ i ∈ G, i ∉ fp v := fun i hi hm => h5 i hm hi
  refine hk v' wc ⟨cells ++ cs, G ++ F, by rw [List.length_append]; exact ho, rows_snoc S (S.fr ha fc (fun i hi => (hF i hi).2)) (rows_fr S fc h2 hGv), ?_, ?_, ?_⟩ fc
  · intro i hi
    rcases List.mem_append.1 hi with h | h
    · exact h3 i h
    · exact (hF i h).1
  · intro i hi
    rcases hsub i hi with h | h
    · exact h4 i h
    · omega
  · intro i hi hm
    rcases hsub i hi with h | h
    · rcases List.mem_append.1 hm with h' | h'
      · exact h5 i h h'
      · exact (hF i h').2 h
    · rcases List.mem_append.1 hm with h' | h'
      · have := hGlt i h'; omega
      · have := hFlt i h'; omega
theorem Ga.rd (h : Ga S T B w v l) (hS : 0 < S.size) : ∃ F, (S.list hS).rd w [v] l F ∧ ∀ i ∈ F, B ≤ i := by
  obtain ⟨cells, G, h1, h2, h3, h4, h5⟩ := h
  refine ⟨_, ⟨v, cells, G, rfl, h1.cap, h1.sl, h2, rfl⟩, fun i hi => ?_⟩
  rcases List.mem_append.1 hi with h | h
  · split at h
    · simp at h
    · exact h4 i h
  · exact h3 i h
end

/-- Ga.push, the condition S kept on the way. -/
theorem Ga.push_S {α : Type} {S : Shape α} {T : TypeId} {B : Nat} {w : World} {v : Value} {l : List α} {LT : TypeId} {z u : Value} {bytes : Nat} {a : α} {cs : List Value} {F : List Nat} {S1 S2 : World → Prop} {k : Value → World → Prop} (g : Ga S T B w v l) (hS0 : 0 < S.size) (hS1 : S.size ≤ 1000) (hb1 : bytes ≤ 1000) (hl : l.length ≤ 100000000) (hB : B ≤ w.heap.size)
    (ht : Try.prog.underlying LT = some (.slice T)) (hinf : (Try.prog.info? T).map (fun i => (i.zero, i.size, i.bytes)) = some (some z, S.size, bytes)) (hz : z.cells.size = S.size)
    (ha : S.rd w cs a F) (hF : ∀ i ∈ F, B ≤ i ∧ i ∉ fp v) (hu : u.cells.toList = cs) (hc : ∀ w', Fr (fp v) w w' → S1 w' ∧ S2 w') (hk : ∀ v' w', Ga S T B w' v' (l ++ [a]) → Fr (fp v) w w' → k v' w') :
    Do Try.prog (Instr.buildSlice LT 1 #[(0, u)]) w fun t13 w11 => S1 w11 ∧ Do Try.prog (Builtin.append_ #[LT, LT] LT #[v, t13]) w11 fun v' w' => S2 w' ∧ k v' w' := by
  obtain ⟨cells, G, h1, h2, h3, h4, h5⟩ := g
  refine lit1 ht hinf hS1 hu (S.len ha) ?_
  intro b wb hb hBk hfb hzb
  refine ⟨(hc wb (hfb.mono (fun i hi => by simp at hi))).1, ?_⟩
  refine do_append ht hinf hz hS0 (h1.fr hfb (fun i _ => by simp)) (Bk.slN hBk (by rw [S.len ha]; omega) 1) (S.one ha) ?_ (by omega) ?_
  · have : (l.length + 1) * bytes ≤ 100000001 * 1000 := Nat.mul_le_mul (by omega) hb1
    omega
  intro v' wc ho hfc hsub
  have hGlt := rows_lt S h2
  have hFlt := S.lt ha
  have fc : Fr (fp v) w wc := (hfb.mono (fun i hi => by simp at hi)).t hfc
  have hGv : ∀ i ∈ G, i ∉ fp v := fun i hi hm => h5 i hm hi
  refine ⟨(hc wc fc).2, hk v' wc ⟨cells ++ cs, G ++ F, by rw [List.length_append]; exact ho, rows_snoc S (S.fr ha fc (fun i hi => (hF i hi).2)) (rows_fr S fc h2 hGv), ?_, ?_, ?_⟩ fc⟩
  · intro i hi
    rcases List.mem_append.1 hi with h | h
    · exact h3 i h
    · exact (hF i h).1
  · intro i hi
    rcases hsub i hi with h | h
    · exact h4 i h
    · omega
  · intro i hi hm
    rcases hsub i hi with h | h
    · rcases List.mem_append.1 hm with h' | h'
      · exact h5 i h h'
      · exact (hF i h').2 h
    · rcases List.mem_append.1 hm with h' | h'
      · have := hGlt i h'; omega
      · have := hFlt i h'; omega

theorem sblocks_c {Y : World → List Nat → Prop} {y : Value} {w0 w : World} {px ps pd bb : Nat} {lv : Value} {D : Dsk} {gen : Nat} {rest : List Value} (h2 : 2 ≤ D.B.length ∨ halfN D.B = 0)
    (hd : ∀ w d, Y w d → Dk w pd bb lv D ∧ Bk w ps 124 (ptr pd :: .int .u32 gen :: rest) ∧ Bk w px 31 [ptr ps] ∧ w0.heap.size ≤ w.heap.size) (hf : ∀ w w' d, Y w d → Fr [] w w' → Y w' d)
    (hy : ∀ (w : World) (d : List Nat) (x : Value) (c : List Nat) (i : Nat), Y w d → Sl w 1 x c.length (bytes c) → (∀ i ∈ fp x, w0.heap.size ≤ i) → d.length + c.length ≤ halfN D.B * 55 → CallV Try.prog y #[.int .i64 i, x] w fun r w' => r = .bool true ∧ Y w' (d ++ c))
    (h : Y w []) : CallF Try.prog 101 #[y, ptr px] w fun r w' => r = .tuple #[] ∧ Y w' (walk (hb D.B gen) gen (halfN D.B) 0 0) := by
  refine C_store_Store_blocks_1_link ?_
  unfold C_store_Store_blocks_1
  obtain ⟨d0, s0, x0, _⟩ := hd _ _ h
  refine ldC_bk x0 rfl ((half_c d0 s0).use ?_)
  rintro _ w1 ⟨rfl, rfl⟩
  have hlen := d0.len
  have hall := d0.all
  have hh : halfN D.B ≤ 32768 := by unfold halfN; omega
  refine ⟨fun m last i w' => ∃ (j l : Nat) (d : List Nat), j + m = halfN D.B ∧ i = .int .i64 j ∧ last = .int .u32 l ∧ Y w' d ∧ d.length ≤ j * 55 ∧ walk (hb D.B gen) gen (halfN D.B) 0 0 = d ++ walk (hb D.B gen) gen m j l, halfN D.B, ⟨0, 0, [], by omega, rfl, rfl, h, by simp, rfl⟩, ?_⟩
  rintro m _ _ w2 ⟨j, l, d, hj, rfl, rfl, hY, hdl, hw⟩
  refine lss (if_p (fun hlt => ?_) (fun hge => ?_))
  case refine_2 =>
    have : m = 0 := by omega
    subst this
    rw [St.walk, List.append_nil] at hw
    rw [hw]
    exact ⟨rfl, hY⟩
  obtain ⟨m', rfl⟩ : ∃ m', m = m' + 1 := ⟨m - 1, by omega⟩
  have hjh : j < halfN D.B := by omega
  have hroom := St.half_room (gen := gen) (h2.resolve_right (by omega)) hjh
  rw [St.walk] at hw
  have hY' := hf _ _ _ hY (Fr.drew [] w2)
  obtain ⟨d2, s2, x2, z2⟩ := hd _ _ hY'
  refine ⟨fun w' => Bk w' ps 124 (ptr pd :: .int .u32 gen :: rest) ∧ Bk w' px 31 [ptr ps], ⟨s2, x2⟩, ?_⟩
  refine ldC_S (fun w' h => h.2) rfl (nilC (fad (ldC_S (fun w' h => h.1) rfl (ldC_S (fun w' h => h.2) rfl ?_))))
  refine (place_c d2 s2 j (by omega)).use ?_
  rintro _ w3 ⟨rfl, hF3⟩
  have hY3 := hf _ _ _ hY' hF3
  obtain ⟨d3, s3, x3, z3⟩ := hd _ _ hY3
  refine ⟨⟨s3, x3⟩, ?_⟩
  refine (dread_c d3 (base (halfN D.B) gen + j)).use ?_
  rintro _ w4 ⟨v, rfl, hN⟩
  have hY4 := hf _ _ _ hY3 hN.fr
  obtain ⟨d4, s4, x4, z4⟩ := hd _ _ hY4
  refine ⟨⟨s4, x4⟩, ext0 (ext1 ?_)⟩
  have hgd : D.B.getD (base (halfN D.B) gen + j) [] = hb D.B gen j := by
    unfold hb
    rw [List.getD_eq_getElem?_getD, List.getD_eq_getElem?_getD, List.getElem?_eq_getElem hroom]; rfl
  obtain ⟨hbl, hbb⟩ := St.hb_64 hall gen j
  have hul : bUsed (hb D.B gen j) < 256 := St.getD_lt hbb 8
  have hfl := St.four_lt (l := (hb D.B gen j).drop 4) (fun c hc => hbb c (List.mem_of_mem_drop hc))
  have e8 : (bytes (hb D.B gen j))[8]? = some (.int .u8 (bUsed (hb D.B gen j) : Int)) := by
    rw [bytes_get (by omega)]
    congr 2
    unfold bUsed
    rw [List.getD_eq_getElem?_getD, List.getElem?_eq_getElem (by omega)]; rfl
  rw [hgd] at hN
  have edat : ((hb D.B gen j).take (9 + bUsed (hb D.B gen j))).drop 9 = bDat (hb D.B gen j) := by
    unfold bDat
    rw [List.drop_take, show 9 + bUsed (hb D.B gen j) - 9 = bUsed (hb D.B gen j) by omega]
  have hdl2 : (bDat (hb D.B gen j)).length ≤ bUsed (hb D.B gen j) := by unfold bDat; rw [List.length_take]; omega
  have eg : bGen (hb D.B gen j) = four (hb D.B gen j) := rfl
  have el : bLife (hb D.B gen j) = four ((hb D.B gen j).drop 4) := rfl
  have hxs : ∀ i ∈ fp v, w0.heap.size ≤ i := fun i hi => by have := hN.new i hi; omega
  generalize hb D.B gen j = b at *
  rw [hbl] at hN
  have hsl : Sl (World.drew w4) 1 v b.length (bytes b) := by rw [hbl]; exact hN.own.sl.fr (Fr.drew [] w4) (by simp)
  have hS : ∀ {w'}, Fr [] (World.drew w4) w' → Sl w' 1 v b.length (bytes b) := fun f => hsl.fr f (fun i _ => by simp)
  refine ⟨fun w' => Sl w' 1 v b.length (bytes b), hsl, ?_⟩
  refine blo (l := 4) hsl hN.own.cap (by omega) ?_
  intro x5 hx5 _ _
  refine ix1S (i := 8) (fun w' h => h) hsl (by omega) e8 (conv_i64 (by omega) ?_)
  refine (four_c hsl (by omega) hbb).use ?_
  rintro _ w5 ⟨rfl, hF5⟩
  refine ⟨hS hF5, ?_⟩
  refine (four_c (hx5.fr hF5 (fun i _ => by simp)) (by rw [List.length_drop]; omega) (fun c hc => hbb c (List.mem_of_mem_drop hc))).use ?_
  rintro _ w6 ⟨rfl, hF6⟩
  have g6 : Fr [] w4 w6 := (Fr.drew [] w4).t (hF5.t hF6)
  have hY6 := hf _ _ _ hY4 g6
  obtain ⟨d6, s6, x6, z6⟩ := hd _ _ hY6
  refine ⟨hS (hF5.t hF6), ?_⟩
  refine ldC_bk x6 rfl (nilC (fad (ldC_bk s6 rfl (neq ?_))))
  rw [← eg, ← el] at *
  have stop : (bGen b ≠ gen ∨ bLife b < l ∨ 55 < bUsed b) → (Value.tuple #[] = .tuple #[] ∧ Y w6 (walk (hb D.B gen) gen (halfN D.B) 0 0)) := fun hc => by
    rw [if_pos hc, List.append_nil] at hw
    rw [hw]
    exact ⟨rfl, hY6⟩
  by_cases h1 : bGen b ≠ gen
  · refine gdF (by simp [isB]; omega) (gdF (by simp [isB]; omega) (gdF (by simp [isB]; omega) (pick_t (by simp; omega) (gdF rfl (gdF rfl (pick_t rfl (if_t rfl (stop (.inl h1)))))))))
  refine gdT (by simp [isB]; omega) rfl (gdT (by simp [isB]; omega) rfl (gdT (by simp [isB]; omega) (lss rfl) (pick_f (by simp; omega) ?_)))
  by_cases h3 : bLife b < l
  · refine gdF (by simp [isB]; omega) (gdF (by simp [isB]; omega) (pick_t (by simp; omega) (if_t rfl (stop (.inr (.inl h3))))))
  refine gdT (by simp [isB]; omega) rfl (gdT (by simp [isB]; omega) (gtr rfl) (pick_f (by simp; omega) ?_))
  refine if_p (fun h4 => stop (.inr (.inr (by omega)))) (fun h4 => ?_)
  have hnc : ¬ (bGen b ≠ gen ∨ bLife b < l ∨ 55 < bUsed b) := by omega
  rw [if_neg hnc] at hw
  refine add64 (by omega) ?_
  have e9 : (9 : Int) + (bUsed b : Int) = ((9 + bUsed b : Nat) : Int) := by omega
  rw [e9]
  have hsl6 := hS (hF5.t hF6)
  refine blh (l := 9) (m := 9 + bUsed b) hsl6 hN.own.cap (by omega) (by omega) ?_
  intro x7 hx7 _ hf7
  rw [edat] at hx7
  refine CallV.mono (hy w6 d x7 (bDat b) j hY6 hx7 (fun i hi => hxs i (hf7 i hi)) (by
    have : (j + 1) * 55 ≤ halfN D.B * 55 := Nat.mul_le_mul_right _ (by omega)
    omega)) ?_
  rintro _ w7 ⟨rfl, hY7⟩
  refine notB (gdT rfl rfl (gdT rfl (lss rfl) (pick_f rfl ?_)))
  refine if_p (fun h5 => ?_) (fun h5 => ?_)
  · rw [if_pos (by omega), List.append_nil] at hw
    rw [hw]
    exact ⟨rfl, hY7⟩
  · rw [if_neg (by omega), ← List.append_assoc] at hw
    refine add64 (by omega) ⟨m', by omega, j + 1, bLife b, d ++ bDat b, by omega, by congr 1, rfl, hY7, by rw [List.length_append]; omega, hw⟩
end Go.Proofs.Ytmlaconjeplhpaa
