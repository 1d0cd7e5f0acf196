/- A loop of the reference's reader: hunger, in furlongref10.DocState. -/
import Derived.Test.YtachignmofpngaaRefR8
set_option linter.unusedVariables false
set_option linter.unusedSimpArgs false
set_option maxRecDepth 20000
namespace Go.Proofs.Ytachignmofpngaa
open Go Go.Vc

/-- Ga.push, the condition S kept on the way. -/
theorem Ga.push_S {α : Type} {S : Shape α} {T : TypeId} {B : Nat} {w : World} {v : Value} {l : List α} {LT : TypeId} {z u : Value} {bytes : Nat} {a : α} {cs : List Value} {F : List Nat} {S1 S2 : World → Prop} {k : Value → World → Prop} (g : Ga S T B w v l) (hS0 : 0 < S.size) (hS1 : S.size ≤ 1000) (hb1 : bytes ≤ 1000) (hl : l.length ≤ 100000000) (hB : B ≤ w.heap.size)
    (ht : Try.prog.underlying LT = some (.slice T)) (hinf : (Try.prog.info? T).map (fun i => (i.zero, i.size, i.bytes)) = some (some z, S.size, bytes)) (hz : z.cells.size = S.size)
    (ha : S.rd w cs a F) (hF : ∀ i ∈ F, B ≤ i ∧ i ∉ fp v) (hu : u.cells.toList = cs) (hc : ∀ w', Fr (fp v) w w' → S1 w' ∧ S2 w') (hk : ∀ v' w', Ga S T B w' v' (l ++ [a]) → Fr (fp v) w w' → k v' w') :
    Do Try.prog (Instr.buildSlice LT 1 #[(0, u)]) w fun t13 w11 => S1 w11 ∧ Do Try.prog (Builtin.append_ #[LT, LT] LT #[v, t13]) w11 fun v' w' => S2 w' ∧ k v' w' := by
  obtain ⟨cells, G, h1, h2, h3, h4, h5⟩ := g
  refine lit1 ht hinf hS1 hu (S.len ha) ?_
  intro b wb hb hBk hfb hzb
  refine ⟨(hc wb (hfb.mono (fun i hi => by simp at hi))).1, ?_⟩
  refine do_append ht hinf hz hS0 (h1.fr hfb (fun i _ => by simp)) (Bk.slN hBk (by rw [S.len ha]; omega) 1) (S.one ha) ?_ (by omega) ?_
  · have : (l.length + 1) * bytes ≤ 100000001 * 1000 := Nat.mul_le_mul (by omega) hb1
    omega
  intro v' wc ho hfc hsub
  have hGlt := rows_lt S h2
  have hFlt := S.lt ha
  have fc : Fr (fp v) w wc := (hfb.mono (fun i hi => by simp at hi)).t hfc
  have hGv : ∀ i ∈ G, i ∉ fp v := fun i hi hm => h5 i hm hi
  refine ⟨(hc wc fc).2, hk v' wc ⟨cells ++ cs, G ++ F, by rw [List.length_append]; exact ho, rows_snoc S (S.fr ha fc (fun i hi => (hF i hi).2)) (rows_fr S fc h2 hGv), ?_, ?_, ?_⟩ fc⟩
  · intro i hi
    rcases List.mem_append.1 hi with h | h
    · exact h3 i h
    · exact (hF i h).1
  · intro i hi
    rcases hsub i hi with h | h
    · exact h4 i h
    · omega
  · intro i hi hm
    rcases hsub i hi with h | h
    · rcases List.mem_append.1 hm with h' | h'
      · exact h5 i h h'
      · exact (hF i h').2 h
    · rcases List.mem_append.1 hm with h' | h'
      · have := hGlt i h'; omega
      · have := hFlt i h'; omega
/-- The same, of hunger: 'var h []int64; r, h = nums(r, 2); s.Hungry = append(s.Hungry, api.Hunger{Queue: int(h[0]), Since: h[1]})'. -/
theorem st_hunger
    {w0 w : World} {b bS : Nat} {v : Value} {bs : List Nat} {s : PS} {cells : List Value} {E : World → Prop}
    (h : Rs w0 v bs) (c : RC w0 b v bs w s) (hBS : Bk w bS 58 cells) (hcl : cells.length = 8) (hnil : cells[7]? = some (.slice none 0 0)) (hbS : w0.heap.size ≤ bS) (hne : b ≠ bS)
    (hE : ∀ w' x, RC w0 b v bs w' (decA (cInt.rep 2) bs s).2 → Bk w' bS 58 (cells.set 7 x) → LQ (sInt.rep 2) (by decide) w.heap.size (decA (cInt.rep 2) bs s).2.err (decA (cInt.rep 2) bs s).1 x w' → Fr [b, bS] w w' → E w') :
    LdA (At w) 3 (.pointer (some ⟨b, 0, none⟩)) fun t36 => CallF Try.prog 59 #[t36] w fun t37 w26 => Ext t37 0 fun t38 => Ext t37 1 fun t39 =>
    DoU Try.prog (Instr.storeAt 92 (.pointer (some ⟨b, 0, none⟩)) t38) w26 fun _ w30 =>
    ∃ (I : Nat → Value → World → Prop) (m32 : Nat), I m32 (.int .i64 0) w30 ∧ ∀ m33, ∀ i, ∀ w35, I m33 i w35 →
    Bin Try.prog (At w35) .lss 3 false false i t39 fun t42 =>
    GdP (isB t42 true) (fun R => FAd 2 (.pointer (some ⟨b, 0, none⟩)) R) fun t44 =>
    GdP (isB t42 true) (fun R => LdC (At w35) t44 R) fun t45 =>
    GdP (isB t42 true) (fun R => Bin Try.prog (At w35) .eql 38 false true t45 (.int .i64 0) R) fun t46 =>
    Pick t42 t46 (.bool false) fun t47 =>
    If t47 (
      LdA (At w35) 3 (.pointer (some ⟨b, 0, none⟩)) fun t51 =>
      CallF Try.prog 45 #[t51, .int .i64 2] w35 fun t52 w45 =>
      Ext t52 0 fun t53 =>
      Ext t52 1 fun t54 =>
      DoU Try.prog (Instr.storeAt 92 (.pointer (some ⟨b, 0, none⟩)) t53) w45 fun _ w49 =>
      ∃ S : World → Prop, S (World.drew w49) ∧
      FAd 7 (.pointer (some ⟨bS, 0, none⟩)) fun t55 =>
      LdC S t55 fun t56 =>
      IAdS 1 t54 (.int .i64 0) fun t142 =>
      LdC S t142 fun t143 =>
      IAdS 1 t54 (.int .i64 1) fun t145 =>
      LdC S t145 fun t146 =>
      Bld Try.prog 119 [(0, t143), (1, t146)] fun t57 =>
      Do Try.prog (Instr.buildSlice 56 1 #[(0, t57)]) (World.drew w49) fun t58 w56 =>
      S w56 ∧
      Do Try.prog (Builtin.append_ #[56, 56] 56 #[t56, t58]) w56 fun t59 w58 =>
      S w58 ∧
      FAd 7 (.pointer (some ⟨bS, 0, none⟩)) fun t60 =>
      DoU Try.prog (Instr.storeAt 56 t60 t59) w58 fun _ w61 =>
      Bin Try.prog (At w61) .add 3 false true i (.int .i64 1) fun t49 =>
      ∃ m63, m63 < m33 ∧ I m63 t49 w61) (E w35) := by
  have hn := decA_le bs s
  have hpn := (cNum 1024 3 (by omega) (by omega)).place bs s c.place
  have hdA : decA (cInt.rep 2) bs s = decL (cInt.rep 2) bs (decN 1024 3 bs s).1 (decN 1024 3 bs s).2 := rfl
  rw [hdA] at hE
  refine c.call (totalR_c c.rs c.place) hpn ?_
  rintro x w3 w4 rfl hF3 hF4 c4
  have hF04 : Fr [b] w w4 := (hF3.mono (fun i hi => by simp at hi)).t hF4
  have hlt0 := c.var.lt
  have hlt1 := hBS.lt
  generalize (decN 1024 3 bs s).1 = n0 at *
  generalize (decN 1024 3 bs s).2 = s1 at *
  refine ⟨fun m i w' => ∃ (j : Nat) (sj : PS) (lj : List (List Int)) (x : Value), j + m = n0 ∧ lj.length = j ∧ i = .int .i64 j ∧ RC w0 b v bs w' sj ∧ Bk w' bS 58 (cells.set 7 x) ∧ Ga (sInt.rep 2) 119 w.heap.size w' x lj ∧ LInv (cInt.rep 2) bs n0 s1 m lj sj ∧ Fr [b, bS] w w', n0,
    ⟨0, s1, [], .slice none 0 0, by omega, rfl, rfl, c4, ?_, Ga.nil _ _ _ _, linv_start (cInt.rep 2) bs n0 s1, hF04.mono (fun i hi => by simp at hi; simp [hi])⟩, ?_⟩
  · have : cells.set 7 (.slice none 0 0) = cells := by
      apply List.ext_getElem?
      intro i
      rw [List.getElem?_set]
      split
      · rename_i h; subst h; rw [if_pos (by omega)]; exact hnil.symm
      · rfl
    rw [this]
    exact hBS.fr hF04 (by simp; omega)
  rintro m i w5 ⟨j, sj, lj, x, hj, hlj, rfl, c5, hB5, g5, hinv, hF5⟩
  have z5 := hF5.size
  refine lss ?_
  have fin : (m = 0 ∨ sj.err ≠ 0) → E w5 := by
    intro hm
    obtain ⟨h1, h2⟩ := linv_end hinv hm
    obtain ⟨F, hrd, hF⟩ := g5.rd (by decide)
    rw [h1] at hE
    exact hE w5 x c5 hB5 ⟨lj, F, hrd, hF, h2⟩ hF5
  by_cases hjn : (j : Int) < (n0 : Int)
  · refine gdT (by simp [isB, hjn]) (fad rfl) (gdT (by simp [isB, hjn]) (ldC_bk c5.var rfl rfl) (gdT (by simp [isB, hjn]) (eql rfl) (pick_t (by simp [hjn]) (if_p (fun he => ?_) (fun he => fin (.inr he))))))
    obtain ⟨m', rfl⟩ : ∃ m', m = m' + 1 := ⟨m - 1, by omega⟩
    have hI := decR_I64 h.byte 2 sj
    refine c5.call (args := fun t => #[t, .int .i64 2]) (rnums_c (n := 2) c5.rs c5.place (by omega)) ((cInt.rep 2).place _ _ c5.place) ?_
    rintro y w6 w7 ⟨hy, hyn⟩ hF6 hF7 c7
    have hF57 : Fr [b] w5 w7 := (hF6.mono (fun i hi => by simp at hi)).t hF7
    have haj : ((cInt.rep 2).dec bs sj).2.err = 0 → (decR cInt bs 2 sj).1 = ((cInt.rep 2).dec bs sj).1 := fun _ => rfl
    obtain ⟨d0, d1, hll⟩ := len2 (decR_length cInt bs 2 sj)
    generalize (decR cInt bs 2 sj).1 = aj at *
    subst hll
    have hcr : (cInt.rep 2).dec bs sj = decR cInt bs 2 sj := rfl
    rw [← hcr] at c7
    have hy7 := hy.fr hF7 (fun i hi => by have := hyn i hi; simp; omega)
    have hy8 : Sl (World.drew w7) 1 y 2 (ints [d0, d1]) := hy7.fr (Fr.drew [] w7) (by simp)
    have hF58 : Fr [b] w5 (World.drew w7) := hF57.t (Fr.drew [b] w7)
    have hB8 := hB5.fr hF58 (by simp; omega)
    have g8 := g5.fr hF58 (by simp; omega)
    have c8 := c7.fresh (Fr.drew [] w7)
    have hyb : ∀ i ∈ fp y, w5.heap.size ≤ i ∧ i < (World.drew w7).heap.size := fun i hi => ⟨hyn i hi, sl_lt hy8 i hi⟩
    have hlow := g8.low
    have hvlt : ∀ i ∈ fp x, i < w5.heap.size := g5.lt
    refine ⟨fun w' => Bk w' bS 58 (cells.set 7 x) ∧ Sl w' 1 y 2 (ints [d0, d1]), ⟨hB8, hy8⟩, ?_⟩
    refine fad (ldC_S (v := x) (fun w' h => h.1) (by rw [Nat.zero_add, List.getElem?_set_self (by omega)]) ?_)
    refine ixL 0 rfl (fun w' h => h.2) hy8 (by omega) rfl ?_
    refine ixL 1 rfl (fun w' h => h.2) hy8 (by omega) rfl ?_
    refine bldV (vals := [.int .i64 d0, .int .i64 d1]) [1, 1] (n := 2) (by kernel_rfl) (by kernel_rfl) rfl (by kernel_rfl) rfl rfl ?_
    have z58 := hF58.size
    refine g8.push_S (S := sInt.rep 2) (a := [d0, d1]) (z := (zeroT Try.prog 119).getD undef) (bytes := 16) (cs := ints [d0, d1]) (F := []) (by decide) (by decide) (by decide) (by omega) (by omega) Try.underlying56 (by kernel_rfl) (by kernel_rfl) (rep_mk _ rfl hI) (by simp) rfl ?_ ?_
    · intro w' hF'
      have h2 : Bk w' bS 58 (cells.set 7 x) ∧ Sl w' 1 y 2 (ints [d0, d1]) := ⟨hB8.fr hF' (fun hm => by have := hlow bS hm; omega), hy8.fr hF' (fun i hi hm => by have := hyb i hi; have := hvlt i hm; omega)⟩
      exact ⟨h2, h2⟩
    intro v9 w9 g9 hF9
    have c9 := c8.go hF9 (fun hm => by have := hlow b hm; omega) (fun i hi => by have := hlow i hi; have := c.fr.size; omega)
    have hB9 := hB8.fr hF9 (fun hm => by have := hlow bS hm; omega)
    refine fad (store' hB9 (by kernel_rfl) (by rw [List.length_set]; omega) g9.one ?_)
    intro w10 hB10 hF10 hs10
    rw [Nat.zero_add, List.set_set] at hB10
    have c10 := c9.go hF10 (by simp; omega) (by simp; omega)
    have g10 := g9.fr hF10 (by simp; omega)
    have hF510 : Fr [b, bS] w w10 := ((hF5.t (hF58.mono (fun i hi => by simp at hi; simp [hi]))).trans hF9 (fun i hi => .inr (hlow i hi))).t (hF10.mono (fun i hi => by simp at hi; simp [hi]))
    exact add64 (by omega) ⟨m', by omega, j + 1, ((cInt.rep 2).dec bs sj).2, lj ++ [[d0, d1]], v9, by omega, by simp [hlj], by congr 1, c10, hB10, g10, linv_step hinv he haj, hF510⟩
  · refine gdF (by simp [isB, hjn]) (gdF (by simp [isB, hjn]) (gdF (by simp [isB, hjn]) (pick_f (by simp [hjn]) (if_f rfl (fin (.inl (by omega)))))))
end Go.Proofs.Ytachignmofpngaa
