/- Contracts of package command's lists of things: gathered by a range over a function. -/
import Derived.Test.YtachignmofpngaaCmdR2
set_option linter.unusedVariables false
set_option linter.unusedSimpArgs false
set_option maxRecDepth 20000
namespace Go.Proofs.Ytachignmofpngaa
open Go Go.Vc

theorem Bk.slN {w : World} {b n size : Nat} {T : TypeId} {l : List Value} (h : Bk w b T l) (hn : l.length = n * size) (c : Nat) : Sl w size (.slice (some ⟨b, 0, none⟩) n c) n l :=
  ⟨some ⟨b, 0, none⟩, c, rfl, by omega, (fun e => by cases e), fun a ha => by
    obtain rfl := Option.some.inj ha
    have := Cells.of_bk h 0 l.length
    simpa using this⟩
/-- A slice of one element. -/
theorem lit1 {P : Program} {w : World} {k : Value → World → Prop} {t e : TypeId} {z u : Value} {size bytes : Nat} {cs : List Value} (ht : P.underlying t = some (.slice e)) (hi : (P.info? e).map (fun i => (i.zero, i.size, i.bytes)) = some (some z, size, bytes))
    (hsz : size ≤ 1000) (hu : u.cells.toList = cs) (hl : cs.length = size)
    (h : ∀ b w', w.heap.size = b → Bk w' b e cs → Fr [] w w' → w'.heap.size = b + 1 → k (.slice (some ⟨b, 0, none⟩) 1 1) w') : Do P (Instr.buildSlice t 1 #[(0, u)]) w k := by
  refine buildSlice' (parts := [(0, u)]) (l := cs) ht hi (by omega) ?_ h
  have hz : (zerosL (bif Nat.beq (1 * size) 0 then [] else z.cells.toList) (1 * size)).length = size := by simp [zerosL]
  generalize zerosL (bif Nat.beq (1 * size) 0 then [] else z.cells.toList) (1 * size) = L at *
  have h1 : Nat.beq u.cells.toList.length size = true := by rw [hu, hl]; simp
  have h2 : Nat.ble (0 + size) L.length = true := by rw [hz]; simp
  simp only [fillL, h1, h2, Bool.not_true, Bool.or_self, cond_false, Nat.zero_mul, h2]
  rw [hu, splice_all (by omega)]

/-- Things are gathered: what has been read so far, and where it stands. lo is the first block that was made for this. -/
structure Gat {α : Type} (S : Shape α) (T LT OT : TypeId) (lo p : Nat) (rv : Value) (bs : List Nat) (r : Go.Loop) (one : Value) (w0 w : World) (hi : Nat) (l : List α) (s : PS) : Prop where
  fr : Fr [p] w0 w
  low : w0.heap.size = lo
  plt : p < lo
  rd : Rd w p rv bs s
  rlt : 0 < bs.length → ∀ i ∈ fp rv, i < lo
  ex : ∃ lv cells G, Bk w lo LT [lv] ∧ Own w T S.size lv l.length cells ∧ S.rows w l cells G ∧ (∀ i ∈ fp lv, lo + 5 ≤ i ∧ i < hi) ∧ (∀ i ∈ G, lo + 5 ≤ i) ∧ (∀ i ∈ fp lv, i ∉ G)
  bx1 : Bk w (lo + 1) 90 [.pointer (some ⟨p, 0, none⟩)]
  bx2 : Bk w (lo + 2) OT [one]
  dfr : w.heap[lo + 3]? = some (.deferred (some []))
  lp : w.heap[lo + 4]? = some (LO r .ready none)
  hle : hi ≤ w.heap.size
section
variable {α : Type} {S : Shape α} {T LT OT : TypeId} {lo p : Nat} {rv : Value} {bs : List Nat} {r : Go.Loop} {one : Value} {w0 w : World} {hi : Nat} {l : List α} {s : PS}
/-- A step of the reader's, or one that changes nothing that was there. -/
theorem Gat.step {s' : PS} {w' : World} (g : Gat S T LT OT lo p rv bs r one w0 w hi l s) (f : Fr [p] w w') (hr : Rd w' p rv bs s') : Gat S T LT OT lo p rv bs r one w0 w' hi l s' := by
  obtain ⟨lv, cells, G, h1, h2, h3, h4, h5, h6⟩ := g.ex
  have hp := g.plt
  refine ⟨g.fr.trans f (fun i hi => .inl hi), g.low, hp, hr, g.rlt, ⟨lv, cells, G, h1.fr f (by simp; omega), h2.fr f (fun i hi => by have := (h4 i hi).1; simp; omega), rows_fr S f h3 (fun i hi => by have := h5 i hi; simp; omega), h4, h5, h6⟩, g.bx1.fr f (by simp; omega), g.bx2.fr f (by simp; omega), f.get g.dfr (by simp; omega), f.get g.lp (by simp; omega), Nat.le_trans g.hle f.size⟩
theorem Gat.fresh {w' : World} (g : Gat S T LT OT lo p rv bs r one w0 w hi l s) (f : Fr [] w w') : Gat S T LT OT lo p rv bs r one w0 w' hi l s :=
  g.step (f.mono (fun i hi => by simp at hi)) (g.rd.fresh f)
theorem Gat.up {hi' : Nat} (g : Gat S T LT OT lo p rv bs r one w0 w hi l s) (h : hi ≤ hi') (hle : hi' ≤ w.heap.size) : Gat S T LT OT lo p rv bs r one w0 w hi' l s := by
  obtain ⟨lv, cells, G, h1, h2, h3, h4, h5, h6⟩ := g.ex
  exact ⟨g.fr, g.low, g.plt, g.rd, g.rlt, ⟨lv, cells, G, h1, h2, h3, fun i hi => ⟨(h4 i hi).1, by have := (h4 i hi).2; omega⟩, h5, h6⟩, g.bx1, g.bx2, g.dfr, g.lp, hle⟩
/-- One more thing. -/
theorem Gat.push {z u : Value} {bytes : Nat} {a : α} {cs : List Value} {F : List Nat} {k : Value → World → Prop} (g : Gat S T LT OT lo p rv bs r one w0 w hi l s) (hS0 : 0 < S.size) (hS1 : S.size ≤ 1000) (hb1 : bytes ≤ 1000) (hl : l.length ≤ 1000000)
    (ht : Try.prog.underlying LT = some (.slice T)) (hinf : (Try.prog.info? T).map (fun i => (i.zero, i.size, i.bytes)) = some (some z, S.size, bytes)) (hz : z.cells.size = S.size) (hs1 : sizeT Try.prog LT = some 1)
    (ha : S.rd w cs a F) (hF : ∀ i ∈ F, hi ≤ i ∧ lo + 5 ≤ i) (hu : u.cells.toList = cs)
    (hk : ∀ w', Gat S T LT OT lo p rv bs r one w0 w' w'.heap.size (l ++ [a]) s → k (.bool true) w') :
    LdC (At (setO w (lo + 4) (LO r .busy none))) (.pointer (some ⟨lo, 0, none⟩)) fun t11 =>
    Do Try.prog (Instr.buildSlice LT 1 #[(0, u)]) (setO w (lo + 4) (LO r .busy none)) fun t13 w11 =>
    Do Try.prog (Builtin.append_ #[LT, LT] LT #[t11, t13]) w11 fun t14 w13 =>
    DoU Try.prog (Instr.storeAt LT (.pointer (some ⟨lo, 0, none⟩)) t14) w13 fun _ w15 =>
    w15.heap[lo + 4]? = some (LO r .busy none) ∧ k (.bool true) (setO w15 (lo + 4) (LO r .ready none)) := by
  obtain ⟨lv, cells, G, h1, h2, h3, h4, h5, h6⟩ := g.ex
  have hp := g.plt
  have hlt := heap_lt g.lp
  have f0 : Fr [lo + 4] w (setO w (lo + 4) (LO r .busy none)) := Fr.setO w _ (.inl (by simp))
  have b0 : (setO w (lo + 4) (LO r .busy none)).heap[lo + 4]? = some (LO r .busy none) := setO_same _ hlt
  have z0 := setO_size w (lo + 4) (LO r .busy none)
  generalize setO w (lo + 4) (LO r .busy none) = wa at *
  have hfs : ∀ i ∈ fp lv, i ∉ [lo + 4] := fun i hi => by have := (h4 i hi).1; simp; omega
  have hGs : ∀ i ∈ G, i ∉ [lo + 4] := fun i hi => by have := h5 i hi; simp; omega
  refine ldC_bk (h1.fr f0 (by simp)) rfl ?_
  refine lit1 ht hinf hS1 hu (S.len ha) ?_
  intro b wb hb hB hfb hzb
  have fb : Fr [lo + 4] w wb := f0.trans hfb (by simp)
  refine do_append ht hinf hz hS0 (h2.fr fb hfs) (Bk.slN hB (by rw [S.len ha]; omega) 1) (S.one ha) ?_ (by omega) ?_
  · have : (l.length + 1) * bytes ≤ 1000001 * 1000 := Nat.mul_le_mul (by omega) hb1
    omega
  intro v' wc ho hfc hsub
  have hlo : lo ∉ fp lv := fun hi => by have := (h4 lo hi).1; omega
  have hlo4 : lo + 4 ∉ fp lv := fun hi => by have := (h4 _ hi).1; omega
  have fc : Fr ((lo + 4) :: fp lv) w wc := (fb.mono (fun i hi => .inl (by simp at hi; simp [hi]))).trans hfc (fun i hi => .inl (by simp [hi]))
  have hbc : Bk wc lo LT [lv] := h1.fr fc (by simp [hlo])
  obtain ⟨A, c, hv'⟩ := ho.len
  refine store' hbc hs1 (by simp) (by rw [hv']; rfl) ?_
  intro wd hbd hfd hzd
  have fd : Fr (lo :: (lo + 4) :: fp lv) w wd := (fc.mono (fun i hi => .inl (by simp at hi ⊢; rcases hi with h | h <;> simp [h]))).trans hfd (fun i hi => .inl (by simp at hi; simp [hi]))
  refine ⟨?_, hk _ ?_⟩
  · exact hfd.get (hfc.get (hfb.get b0 (by simp)) hlo4) (by simp)
  have fe : Fr (lo :: (lo + 4) :: fp lv) w (setO wd (lo + 4) (LO r .ready none)) := fd.trans (Fr.setO (X := [lo + 4]) wd _ (.inl (by simp))) (fun i hi => .inl (by simp at hi; simp [hi]))
  have hY : ∀ i ∈ lo :: (lo + 4) :: fp lv, lo ≤ i := fun i hi => by
    rcases List.mem_cons.1 hi with h | h
    · omega
    · rcases List.mem_cons.1 h with h | h
      · omega
      · have := (h4 i h).1; omega
  have hv'lo : ∀ i ∈ fp v', lo + 5 ≤ i := fun i hi => (hsub i hi).elim (fun h => (h4 i h).1) (fun h => by omega)
  have hG1 : ∀ i ∈ G, i ∉ lo :: (lo + 4) :: fp lv := fun i hi hm => by
    have h5' := h5 i hi
    rcases List.mem_cons.1 hm with h | h
    · omega
    · rcases List.mem_cons.1 h with h | h
      · omega
      · exact h6 i h hi
  have hF1 : ∀ i ∈ F, i ∉ lo :: (lo + 4) :: fp lv := fun i hi hm => by
    obtain ⟨h5', h7⟩ := hF i hi
    rcases List.mem_cons.1 hm with h | h
    · omega
    · rcases List.mem_cons.1 h with h | h
      · omega
      · have := (h4 i h).2; omega
  have hGlt := rows_lt S h3
  have hFlt := S.lt ha
  have zc := hfc.size
  have ze : (setO wd (lo + 4) (LO r .ready none)).heap.size = wd.heap.size := setO_size _ _ _
  refine ⟨g.fr.trans fe (fun i hi => .inr (by have := hY i hi; have := g.low; omega)), g.low, hp, g.rd.fr fe (fun hm => by have := hY p hm; omega) (fun h0 i hi hm => by have := hY i hm; have := g.rlt h0 i hi; omega), g.rlt, ?_, ?_, ?_, ?_, ?_, Nat.le_refl _⟩
  · refine ⟨v', cells ++ cs, G ++ F, ?_, ?_, ?_, ?_, ?_, ?_⟩
    · have := hbd.setO (c := lo + 4) (LO r .ready none) (by omega)
      simpa using this
    · have h8 := ho.fr hfd (fun i hi => by have := hv'lo i hi; simp; omega)
      have h9 := h8.fr (Fr.setO (X := [lo + 4]) wd (b := lo + 4) (LO r .ready none) (.inl (by simp))) (fun i hi => by have := hv'lo i hi; simp; omega)
      rw [List.length_append]
      exact h9
    · exact rows_snoc S (S.fr ha fe hF1) (rows_fr S fe h3 hG1)
    · exact fun i hi => ⟨hv'lo i hi, by have := ho.lt i hi; omega⟩
    · intro i hi
      rcases List.mem_append.1 hi with h | h
      · exact h5 i h
      · exact (hF i h).2
    · intro i hi hm
      rcases hsub i hi with h | h
      · rcases List.mem_append.1 hm with h' | h'
        · exact h6 i h h'
        · have := (hF i h').1; have := (h4 i h).2; omega
      · have hfbz := hfb.size
        rcases List.mem_append.1 hm with h' | h'
        · have := hGlt i h'; omega
        · have := hFlt i h'; omega
  · exact g.bx1.fr fe (fun hm => by
      rcases List.mem_cons.1 hm with h | h
      · omega
      · rcases List.mem_cons.1 h with h | h
        · omega
        · have := (h4 _ h).1; omega)
  · exact g.bx2.fr fe (fun hm => by
      rcases List.mem_cons.1 hm with h | h
      · omega
      · rcases List.mem_cons.1 h with h | h
        · omega
        · have := (h4 _ h).1; omega)
  · exact fe.get g.dfr (fun hm => by
      rcases List.mem_cons.1 hm with h | h
      · omega
      · rcases List.mem_cons.1 h with h | h
        · omega
        · have := (h4 _ h).1; omega)
  · exact setO_same _ (by have := hfb.size; omega)
end
end Go.Proofs.Ytachignmofpngaa
