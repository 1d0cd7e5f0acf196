/- The contract of the reference's reader: furlongref10.DocState. -/
import Derived.Test.YtachignmofpngaaRefR7
set_option linter.unusedVariables false
set_option linter.unusedSimpArgs false
set_option maxRecDepth 20000
namespace Go.Proofs.Ytachignmofpngaa
open Go Go.Vc

/-- How far a list is read: the things so far, the state, and what is still to come. -/
def LInv {α : Type} (C : Codec α) (bs : List Nat) (n0 : Nat) (s1 : PS) (m : Nat) (lj : List α) (sj : PS) : Prop :=
  (sj.err = 0 → decL C bs n0 s1 = (lj ++ (decL C bs m sj).1, (decL C bs m sj).2)) ∧ (sj.err ≠ 0 → (decL C bs n0 s1).2 = sj)
theorem linv_start {α : Type} (C : Codec α) (bs : List Nat) (n0 : Nat) (s1 : PS) : LInv C bs n0 s1 n0 [] s1 :=
  ⟨fun _ => rfl, fun h => by rw [(decL_eq C bs n0 s1).1]; exact decR_stuck C bs n0 s1 h⟩
theorem linv_step {α : Type} {C : Codec α} {bs : List Nat} {n0 m : Nat} {s1 sj : PS} {lj : List α} {a' : α} (h : LInv C bs n0 s1 (m + 1) lj sj) (h0 : sj.err = 0) (ha : (C.dec bs sj).2.err = 0 → a' = (C.dec bs sj).1) : LInv C bs n0 s1 m (lj ++ [a']) (C.dec bs sj).2 := by
  have h1 := h.1 h0
  refine ⟨fun he => ?_, fun he => ?_⟩
  · rw [decL, if_neg (by simp [he])] at h1
    rw [ha he, h1]; simp
  · rw [decL, if_pos he] at h1
    rw [h1]
theorem linv_end {α : Type} {C : Codec α} {bs : List Nat} {n0 m : Nat} {s1 sj : PS} {lj : List α} (h : LInv C bs n0 s1 m lj sj) (hm : m = 0 ∨ sj.err ≠ 0) : (decL C bs n0 s1).2 = sj ∧ (sj.err = 0 → lj = (decL C bs n0 s1).1) := by
  by_cases he : sj.err = 0
  · have hm0 : m = 0 := hm.resolve_right (fun h => h he)
    subst hm0
    have h1 := h.1 he
    have e0 : decL C bs 0 sj = ([], sj) := rfl
    rw [e0] at h1
    rw [h1]; simp
  · exact ⟨h.2 he, fun h => absurd h he⟩
theorem Sl.one_of {w : World} {size n : Nat} {v : Value} {l : List Value} (h : Sl w size v n l) : v.oneCell' = true := by
  obtain ⟨A, c, rfl, _⟩ := h; rfl

/-- 'r, n = total(r); for i := 0; i < n && r.E == OK; i++ { var q T; r, q = f(r); s.X = append(s.X, q) }'. -/
theorem st_list {α : Type} {S : Shape α} {C : Codec α} {T LT : TypeId} {f : FuncId} {z : Value} {bytes : Nat} (n o : Nat) (hS0 : 0 < S.size) (hSn : S.size = n) (hn1 : n ≤ 1000) (hb1 : bytes ≤ 1000)
    (ht : Try.prog.underlying LT = some (.slice T)) (hinf : (Try.prog.info? T).map (fun i => (i.zero, i.size, i.bytes)) = some (some z, n, bytes)) (hz : z.cells.size = n) (hzt : (zeroT Try.prog T).map (fun z => z.cells.toList.length) = some n) (hst : sizeT Try.prog T = some n) (hLT : sizeT Try.prog LT = some 1)
    {w0 w : World} {b bS : Nat} {v : Value} {bs : List Nat} {s : PS} {cells : List Value} {E : World → Prop}
    (hf : ∀ (w : World) (s : PS), Rs w v bs → s.pos ≤ bs.length → CallF Try.prog f #[rv v s] w (Nx v (C.dec bs s).2 w (TQ S w.heap.size (C.dec bs s).2.err (C.dec bs s).1)))
    (c : RC w0 b v bs w s) (hBS : Bk w bS 58 cells) (hcl : cells.length = 8) (ho : o < 8) (hnil : cells[o]? = some (.slice none 0 0)) (hbS : w0.heap.size ≤ bS) (hne : b ≠ bS)
    (hE : ∀ w' x, RC w0 b v bs w' (decA C bs s).2 → Bk w' bS 58 (cells.set o x) → LQ S hS0 w.heap.size (decA C bs s).2.err (decA C bs s).1 x w' → Fr [b, bS] w w' → E w') :
    LdA (At w) 3 (.pointer (some ⟨b, 0, none⟩)) fun t36 => CallF Try.prog 59 #[t36] w fun t37 w26 => Ext t37 0 fun t38 => Ext t37 1 fun t39 =>
    DoU Try.prog (Instr.storeAt 92 (.pointer (some ⟨b, 0, none⟩)) t38) w26 fun _ w30 =>
    ∃ (I : Nat → Value → World → Prop) (m32 : Nat), I m32 (.int .i64 0) w30 ∧ ∀ m33, ∀ i, ∀ w35, I m33 i w35 →
    Bin Try.prog (At w35) .lss 3 false false i t39 fun t42 =>
    GdP (isB t42 true) (fun R => FAd 2 (.pointer (some ⟨b, 0, none⟩)) R) fun t44 =>
    GdP (isB t42 true) (fun R => LdC (At w35) t44 R) fun t45 =>
    GdP (isB t42 true) (fun R => Bin Try.prog (At w35) .eql 38 false true t45 (.int .i64 0) R) fun t46 =>
    Pick t42 t46 (.bool false) fun t47 =>
    If t47 (
      Do Try.prog (Instr.alloc T true (.tuple #[])) w35 fun q w42 =>
      LdA (At w42) 3 (.pointer (some ⟨b, 0, none⟩)) fun t51 =>
      CallF Try.prog f #[t51] w42 fun t52 w45 =>
      Ext t52 0 fun t53 =>
      Ext t52 1 fun t54 =>
      DoU Try.prog (Instr.storeAt 92 (.pointer (some ⟨b, 0, none⟩)) t53) w45 fun _ w49 =>
      DoU Try.prog (Instr.storeAt T q t54) w49 fun _ w51 =>
      FAd o (.pointer (some ⟨bS, 0, none⟩)) fun t55 =>
      LdC (At w51) t55 fun t56 =>
      LdA (At w51) n q fun t57 =>
      Do Try.prog (Instr.buildSlice LT 1 #[(0, t57)]) w51 fun t58 w56 =>
      Do Try.prog (Builtin.append_ #[LT, LT] LT #[t56, t58]) w56 fun t59 w58 =>
      FAd o (.pointer (some ⟨bS, 0, none⟩)) fun t60 =>
      DoU Try.prog (Instr.storeAt LT t60 t59) w58 fun _ w61 =>
      Bin Try.prog (At w61) .add 3 false true i (.int .i64 1) fun t49 =>
      ∃ m63, m63 < m33 ∧ I m63 t49 w61) (E w35) := by
  have hn := decA_le bs s
  have hpn := (cNum 1024 3 (by omega) (by omega)).place bs s c.place
  have hdA : decA C bs s = decL C bs (decN 1024 3 bs s).1 (decN 1024 3 bs s).2 := rfl
  rw [hdA] at hE
  refine c.call (totalR_c c.rs c.place) hpn ?_
  rintro x w3 w4 rfl hF3 hF4 c4
  have hF04 : Fr [b] w w4 := (hF3.mono (fun i hi => by simp at hi)).t hF4
  have hlt0 := c.var.lt
  have hlt1 := hBS.lt
  generalize (decN 1024 3 bs s).1 = n0 at *
  generalize (decN 1024 3 bs s).2 = s1 at *
  refine ⟨fun m i w' => ∃ (j : Nat) (sj : PS) (lj : List α) (x : Value), j + m = n0 ∧ lj.length = j ∧ i = .int .i64 j ∧ RC w0 b v bs w' sj ∧ Bk w' bS 58 (cells.set o x) ∧ Ga S T w.heap.size w' x lj ∧ LInv C bs n0 s1 m lj sj ∧ Fr [b, bS] w w', n0,
    ⟨0, s1, [], .slice none 0 0, by omega, rfl, rfl, c4, ?_, Ga.nil _ _ _ _, linv_start C bs n0 s1, hF04.mono (fun i hi => by simp at hi; simp [hi])⟩, ?_⟩
  · have : cells.set o (.slice none 0 0) = cells := by
      apply List.ext_getElem?
      intro i
      rw [List.getElem?_set]
      split
      · rename_i h; subst h; rw [if_pos (by omega)]; exact hnil.symm
      · rfl
    rw [this]
    exact hBS.fr hF04 (by simp; omega)
  rintro m i w5 ⟨j, sj, lj, x, hj, hlj, rfl, c5, hB5, g5, hinv, hF5⟩
  have z5 := hF5.size
  refine lss ?_
  have fin : (m = 0 ∨ sj.err ≠ 0) → E w5 := by
    intro hm
    obtain ⟨h1, h2⟩ := linv_end hinv hm
    obtain ⟨F, hrd, hF⟩ := g5.rd hS0
    rw [h1] at hE
    exact hE w5 x c5 hB5 ⟨lj, F, hrd, hF, h2⟩ hF5
  by_cases hjn : (j : Int) < (n0 : Int)
  · refine gdT (by simp [isB, hjn]) (fad rfl) (gdT (by simp [isB, hjn]) (ldC_bk c5.var rfl rfl) (gdT (by simp [isB, hjn]) (eql rfl) (pick_t (by simp [hjn]) (if_p (fun he => ?_) (fun he => fin (.inr he))))))
    obtain ⟨m', rfl⟩ : ∃ m', m = m' + 1 := ⟨m - 1, by omega⟩
    refine alloc_n hzt ?_
    intro b3 w55 z3 hz3 hb3 hB3 hF55 hs55
    have c55 := c5.fresh hF55
    refine c55.call (hf w55 sj c55.rs c55.place) (C.place _ _ c55.place) ?_
    rintro y w6 w7 ⟨cs, aj, F, rfl, hrd, hFn, haj⟩ hF6 hF7 c7
    have hF57 : Fr [b] w55 w7 := (hF6.mono (fun i hi => by simp at hi)).t hF7
    have hcs : cs.length = n := by rw [S.len hrd]; exact hSn
    have hB37 := hB3.fr hF57 (by simp; omega)
    refine store_all hB37 hst hz3 hcs (by omega) (S.one hrd) ?_
    intro w8 hB38 hF8 hs8
    have hF58 : Fr [b] w5 w8 := ((hF55.mono (fun i hi => by simp at hi)).t hF57).trans hF8 (fun i hi => .inr (by simp at hi; omega))
    have hrd7 := S.fr hrd hF7 (fun i hi => by have := hFn i hi; simp; omega)
    have hrd8 := S.fr hrd7 hF8 (fun i hi => by have := hFn i hi; simp; omega)
    have hB8 := hB5.fr hF58 (by simp; omega)
    have g8 := g5.fr hF58 (by simp; omega)
    have c8 := c7.go hF8 (by simp; omega) (by have := c5.new; have := c5.fr.size; simp; omega)
    refine fad (ldC_bk (v := x) hB8 (by rw [Nat.zero_add, List.getElem?_set_self (by omega)]) ?_)
    refine ldA_bk hB38 (by omega) ?_
    have ec : (cs.drop 0).take n = cs := by rw [List.drop_zero]; exact List.take_of_length_le (by omega)
    rw [ec]
    have hvlt : ∀ i ∈ fp x, i < w5.heap.size := g5.lt
    have z58 := hF58.size
    refine g8.push (S := S) (a := aj) (z := z) (bytes := bytes) hS0 (by omega) hb1 (by omega) (by omega) ht (by rw [hSn]; exact hinf) (by rw [hSn]; exact hz) hrd8 (fun i hi => by have := hFn i hi; exact ⟨by omega, fun hm => by have := hvlt i hm; omega⟩) (by simp [Value.cells]) ?_
    intro v9 w9 g9 hF9
    have hlow := g8.low
    have c9 := c8.go hF9 (fun hm => by have := hlow b hm; omega) (fun i hi => by have := hlow i hi; have := c.fr.size; omega)
    have hB9 := hB8.fr hF9 (fun hm => by have := hlow bS hm; omega)
    refine fad (store' hB9 hLT (by rw [List.length_set]; omega) g9.one ?_)
    intro w10 hB10 hF10 hs10
    rw [Nat.zero_add, List.set_set] at hB10
    have c10 := c9.go hF10 (by simp; omega) (by simp; omega)
    have g10 := g9.fr hF10 (by simp; omega)
    have hF510 : Fr [b, bS] w w10 := ((hF5.t (hF58.mono (fun i hi => by simp at hi; simp [hi]))).trans hF9 (fun i hi => .inr (hlow i hi))).t (hF10.mono (fun i hi => by simp at hi; simp [hi]))
    exact add64 (by omega) ⟨m', by omega, j + 1, (C.dec bs sj).2, lj ++ [aj], v9, by omega, by simp [hlj], by congr 1, c10, hB10, g10, linv_step hinv he haj, hF510⟩
  · refine gdF (by simp [isB, hjn]) (gdF (by simp [isB, hjn]) (gdF (by simp [isB, hjn]) (pick_f (by simp [hjn]) (if_f rfl (fin (.inl (by omega)))))))
end Go.Proofs.Ytachignmofpngaa
