/- Contracts of package command's reader: numbers, and lists gathered by a range over a function. -/
import Derived.Test.YtachignmofpngaaCmdR
set_option linter.unusedVariables false
set_option linter.unusedSimpArgs false
set_option maxRecDepth 20000
namespace Go.Proofs.Ytachignmofpngaa
open Go Go.Vc

/-- A reader stands at p: its bytes, its place, its error. -/
structure Rd (w : World) (p : Nat) (v : Value) (bs : List Nat) (s : PS) : Prop where
  blk : Bk w p 140 [v, .int .i64 s.pos, .int .i64 s.err]
  sl : Sl w 1 v bs.length (bytes bs)
  cap : capOk v
  byte : ∀ b ∈ bs, b < 256
  place : s.pos ≤ bs.length
  big : bs.length ≤ 4611686018427387904
  sep : 0 < bs.length → p ∉ fp v
theorem Rd.fr {w w' : World} {p : Nat} {v : Value} {bs : List Nat} {s : PS} {X : List Nat} (h : Rd w p v bs s) (f : Fr X w w') (h1 : p ∉ X) (h2 : 0 < bs.length → ∀ i ∈ fp v, i ∉ X) : Rd w' p v bs s :=
  ⟨h.blk.fr f h1, h.sl.fr1 f h2, h.cap, h.byte, h.place, h.big, h.sep⟩
theorem Rd.fresh {w w' : World} {p : Nat} {v : Value} {bs : List Nat} {s : PS} (h : Rd w p v bs s) (f : Fr [] w w') : Rd w' p v bs s := h.fr f (by simp) (fun _ i _ => by simp)
theorem Rd.lt {w : World} {p : Nat} {v : Value} {bs : List Nat} {s : PS} (h : Rd w p v bs s) (h0 : 0 < bs.length) : ∀ i ∈ fp v, i < w.heap.size := by
  obtain ⟨A, c, rfl, hl, hn, hc⟩ := h.sl
  intro i hi
  cases A with
  | none => simp [fp_nil] at hi
  | some a =>
    simp [fp_some] at hi
    subst hi
    have := hc a rfl 0 _ (bytes_get h0)
    have hlt := World.block_lt_of_cell? w _ this
    have hb : (a.add 0).block = a.block := by unfold Addr.add; split <;> rfl
    rwa [hb] at hlt
/-- Two stores into a reader. -/
theorem Rd.put {w : World} {p : Nat} {v : Value} {bs : List Nat} {s : PS} {k : Value → World → Prop} (h : Rd w p v bs s) {n : Nat} {e : Int} (hn : n ≤ bs.length) (hk : ∀ w', Rd w' p v bs ⟨n, e⟩ → Fr [p] w w' → k undef w') :
    DoU Try.prog (Instr.storeAt 3 (.pointer (some ⟨p, 0 + 1, none⟩)) (.int .i64 n)) w fun _ w1 => NilC (.pointer (some ⟨p, 0, none⟩)) fun t => FAd 2 t fun t' => DoU Try.prog (Instr.storeAt 38 t' (.int .i64 e)) w1 k := by
  refine store' h.blk (by kernel_rfl) (by simp) rfl fun w1 hb1 hf1 _ => ?_
  refine nilC (fad ?_)
  refine store' hb1 (by kernel_rfl) (by simp) rfl fun w2 hb2 hf2 _ => ?_
  have hf : Fr [p] w w2 := hf1.trans hf2 (fun i hi => .inl hi)
  exact hk w2 ⟨by simpa using hb2, h.sl.fr1 hf (fun h0 i hi => by simp; intro e; subst e; exact h.sep h0 hi), h.cap, h.byte, hn, h.big, h.sep⟩ hf

/-- What a call that reads a thing does. -/
def RdF {α : Type} (agg : Bool) (S : Shape α) (C : Codec α) (p : Nat) (call : World → (Value → World → Prop) → Prop) : Prop :=
  ∀ w v bs s, Rd w p v bs s → call w fun r w' => ∃ cs F, r = asV agg cs ∧ S.rd w' cs (C.dec bs s).1 F ∧ (∀ i ∈ F, w.heap.size ≤ i) ∧ Rd w' p v bs (C.dec bs s).2 ∧ Fr [p] w w'

theorem decI_I64 {bs : List Nat} (hb : ∀ b ∈ bs, b < 256) (s : PS) : I64 (decI bs s).1 := by
  unfold decI
  split
  · unfold I64; simp
  · exact zag_I64 (getN_lt hb)
theorem int64_c (p : Nat) : RdF false sInt cInt p fun w k => CallF Try.prog 77 #[.pointer (some ⟨p, 0, none⟩)] w k := by
  intro w v bs s h
  refine C_command_reader_int64_link ?_
  unfold C_command_reader_int64
  have hI := decI_I64 h.byte s
  have hd : cInt.dec bs s = decI bs s := rfl
  rw [hd]
  refine nilC (fad (ldC_bk h.blk rfl (neq (if_p (fun he => ?_) (fun he => ?_)))))
  · have e : decI bs s = (0, s) := by unfold decI; rw [if_pos he]
    rw [e] at hI ⊢
    exact ⟨[.int .i64 0], [], rfl, ⟨rfl, rfl, hI⟩, by simp, h, Fr.refl _ _⟩
  · have e : decI bs s = (zag (getN bs s.pos).1, ⟨(getN bs s.pos).2.1, (getN bs s.pos).2.2⟩) := by unfold decI; rw [if_neg he]
    rw [e] at hI ⊢
    refine ⟨fun w' => Bk w' p 140 [v, .int .i64 s.pos, .int .i64 s.err], h.blk.drew, ?_⟩
    refine nilC (fad (ldC_S (l := [v, .int .i64 s.pos, .int .i64 s.err]) (fun w' h => h) rfl ?_))
    refine nilC (fad (ldC_S (l := [v, .int .i64 s.pos, .int .i64 s.err]) (fun w' h => h) rfl ?_))
    have hd := h.fresh (Fr.drew [] w)
    refine (readInt_c hd.sl h.cap h.byte h.place h.big).use ?_
    rintro _ w1 ⟨rfl, rfl⟩
    refine ext0 (ext1 (ext2 (nilC (fad ?_))))
    refine hd.put (getN_place h.place) ?_
    intro w2 hr2 hf2
    exact ⟨[.int .i64 (zag (getN bs s.pos).1)], [], rfl, ⟨rfl, rfl, hI⟩, by simp, hr2, (Fr.drew [p] w).trans hf2 (fun i hi => .inl hi)⟩
theorem int_c (p : Nat) : RdF false sInt cInt p fun w k => CallF Try.prog 78 #[.pointer (some ⟨p, 0, none⟩)] w k := by
  intro w v bs s h
  refine C_command_reader_int_link ?_
  unfold C_command_reader_int
  exact (int64_c p w v bs s h).use fun r w' h => h
theorem upto_c {w : World} {p : Nat} {v : Value} {bs : List Nat} {s : PS} (h : Rd w p v bs s) {most : Nat} {bad : Int} :
    CallF Try.prog 100 #[.pointer (some ⟨p, 0, none⟩), .int .u64 most, .int .i64 bad] w fun r w' => r = .int .u64 (decN most bad bs s).1 ∧ Rd w' p v bs (decN most bad bs s).2 ∧ Fr [p] w w' := by
  refine C_command_reader_upto_link ?_
  unfold C_command_reader_upto
  refine nilC (fad (ldC_bk h.blk rfl (neq (if_p (fun he => ?_) (fun he => ?_)))))
  · have e : decN most bad bs s = (0, s) := by unfold decN; rw [if_pos he]
    rw [e]
    exact ⟨rfl, h, Fr.refl _ _⟩
  · refine nilC (fad (ldC_bk h.blk rfl ?_))
    refine ⟨fun w' => Bk w' p 140 [v, .int .i64 s.pos, .int .i64 s.err], h.blk.drew, ?_⟩
    refine nilC (fad (ldC_S (l := [v, .int .i64 s.pos, .int .i64 s.err]) (fun w' h => h) rfl ?_))
    refine nilC (fad (ldC_S (l := [v, .int .i64 s.pos, .int .i64 s.err]) (fun w' h => h) rfl ?_))
    have hd := h.fresh (Fr.drew [] w)
    refine (read_c hd.sl h.cap h.byte h.place h.big).use ?_
    rintro _ w1 ⟨rfl, rfl⟩
    have e : decN most bad bs s = if (getN bs s.pos).2.2 = 0 ∧ most < (getN bs s.pos).1 then (0, ⟨s.pos, bad⟩) else ((getN bs s.pos).1, ⟨(getN bs s.pos).2.1, (getN bs s.pos).2.2⟩) := by unfold decN; rw [if_neg he]
    have hpl := getN_place h.place
    rw [e]
    generalize (getN bs s.pos).1 = x at *
    generalize (getN bs s.pos).2.1 = n at *
    generalize (getN bs s.pos).2.2 = er at *
    refine ext0 (ext1 (ext2 (nilC (fad ?_))))
    refine hd.put hpl ?_
    intro w2 hr2 hf2
    have hf := (Fr.drew [p] w).trans hf2 (fun i hi => .inl hi)
    refine eql ?_
    by_cases h0 : er = 0
    · refine gdT (by simp [isB, h0]) rfl (gdT (by simp [isB, h0]) rfl (gdT (by simp [isB, h0]) (gtr rfl) (pick_t (by simp [h0]) (if_p (fun hm => ?_) (fun hm => ?_)))))
      · rw [if_pos ⟨h0, by omega⟩]
        refine nilC (fad ?_)
        refine hr2.put h.place ?_
        intro w3 hr3 hf3
        exact ⟨rfl, hr3, hf.trans hf3 (fun i hi => .inl hi)⟩
      · rw [if_neg (by omega)]
        exact ⟨rfl, hr2, hf⟩
    · refine gdF (by simp [isB, h0]) (gdF (by simp [isB, h0]) (gdF (by simp [isB, h0]) (pick_f (by simp [h0]) ?_)))
      refine if_f rfl ?_
      rw [if_neg (by omega)]
      exact ⟨rfl, hr2, hf⟩
end Go.Proofs.Ytachignmofpngaa
