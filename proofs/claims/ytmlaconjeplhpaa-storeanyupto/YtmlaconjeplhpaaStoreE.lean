/- The contract of package store's Open. -/
import Derived.Test.YtmlaconjeplhpaaStoreD
set_option linter.unusedVariables false
set_option linter.unusedSimpArgs false
set_option maxRecDepth 20000
namespace Go.Proofs.Ytmlaconjeplhpaa
open Go Go.Vc
open St (Dsk All64 Blk pad four put4 halfN base hb walk eldest rootF openF foundOf allF recs encAll oneRec)

theorem loopW_heap (w : World) (r : Go.Loop) : (loopW w r).heap = (w.heap.push (.deferred (some []))).push (LO r .ready none) := rfl
theorem loopW_at (w : World) (r : Go.Loop) : (loopW w r).heap[w.heap.size]? = some (.deferred (some [])) ∧ (loopW w r).heap[w.heap.size + 1]? = some (LO r .ready none) ∧ Fr [] w (loopW w r) ∧ (loopW w r).heap.size = w.heap.size + 2 := by
  have h : loopW w r = (w.alloc (.deferred (some []))).alloc (LO r .ready none) := rfl
  have h1 := alloc_size w (.deferred (some []))
  refine ⟨?_, ?_, ?_, ?_⟩
  · rw [h]; exact alloc_old _ (alloc_new w _)
  · rw [h, ← h1]; exact alloc_new _ _
  · rw [h]; exact (Fr.alloc [] w _).t (Fr.alloc [] _ _)
  · rw [h, alloc_size, h1]


/-- Bytes in a row of one's own. -/
def sOwn : Shape (List Nat) where
  size := 1
  rd w cs l F := ∃ v, cs = [v] ∧ Own w 5 1 v l.length (bytes l) ∧ F = fp v
  len := by rintro w cs l F ⟨v, rfl, _⟩; rfl
  one := by rintro w cs l F ⟨v, rfl, h, _⟩ u hu; obtain ⟨A, c, rfl⟩ := h.len; rw [List.mem_singleton.1 hu]; rfl
  fr := by rintro w w' cs l F X ⟨v, rfl, h, rfl⟩ f hx; exact ⟨v, rfl, h.fr f hx, rfl⟩
  lt := by rintro w cs l F ⟨v, rfl, h, rfl⟩; exact h.lt
theorem recs_step {l : List Nat} (h : oneRec l = true) : recs l = (l.drop 4).take (four l) :: recs (l.drop (4 + four l)) := by
  have ho := (St.oneRec_iff l).1 h
  unfold recs
  obtain ⟨n, hn⟩ : ∃ n, l.length = n + 1 := ⟨l.length - 1, by omega⟩
  rw [hn, St.parse, if_pos h]
  congr 1
  exact St.parse_more _ _ _ (by rw [List.length_drop]; omega) (Nat.le_refl _)
theorem recs_stop {l : List Nat} (h : oneRec l ≠ true) : recs l = [] := by
  unfold recs
  cases hn : l.length with
  | zero => rfl
  | succ n => rw [St.parse, if_neg h]
/-- In the midst of Open. -/
structure OZ (w0 : World) (pd bb ps pa pf b3 dl : Nat) (lv : Value) (D : Dsk) (gen life : Nat) (all : List Nat) (fs : List Value) (w : World) : Prop where
  fr : Fr [] w0 w
  dk : Dk w pd bb lv D
  st : Bk w ps 124 [ptr pd, .int .u32 gen, .int .u32 life, .slice none 0 0, .int .i64 0, .int .i64 0, .int .i64 0]
  av : ∃ av, Bk w pa 24 [av] ∧ Own w 5 1 av all.length (bytes all) ∧ ∀ i ∈ fp av, dl < i ∧ i < pf
  fpf : Bk w pf 33 fs
  fb3 : ∃ l, Bk w b3 33 l ∧ l.length = 3
  fdl : w.heap[dl]? = some (.deferred (some []))
  o0 : pd < w0.heap.size ∧ bb < w0.heap.size ∧ ∀ i ∈ fp lv, i < w0.heap.size
  o1 : w0.heap.size ≤ b3
  o2 : b3 < ps
  o3 : ps < pa
  o4 : pa < dl
  o5 : dl < pf
section
variable {w0 w w' : World} {pd bb ps pa pf b3 dl : Nat} {lv : Value} {D : Dsk} {gen life : Nat} {all : List Nat} {fs : List Value}
theorem OZ.step {X : List Nat} (z : OZ w0 pd bb ps pa pf b3 dl lv D gen life all fs w) (f : Fr X w w') (hx : ∀ i ∈ X, pf < i) : OZ w0 pd bb ps pa pf b3 dl lv D gen life all fs w' := by
  obtain ⟨av, h1, h2, h3⟩ := z.av
  obtain ⟨l, h4, h5⟩ := z.fb3
  obtain ⟨q1, q2, q3⟩ := z.o0
  have o1 := z.o1; have o2 := z.o2; have o3 := z.o3; have o4 := z.o4; have o5 := z.o5
  have no : ∀ i, i ≤ pf → i ∉ X := fun i hi hm => by have := hx i hm; omega
  exact ⟨z.fr.trans f (fun i hi => .inr (by have := hx i hi; omega)), z.dk.fr f (no _ (by omega)) (no _ (by omega)) (fun i hi => no _ (by have := q3 i hi; omega)), z.st.fr f (no _ (by omega)), ⟨av, h1.fr f (no _ (by omega)), h2.fr f (fun i hi => no _ (by have := h3 i hi; omega)), h3⟩, z.fpf.fr f (no _ (Nat.le_refl _)), ⟨l, h4.fr f (no _ (by omega)), h5⟩, f.get z.fdl (no _ (by omega)), z.o0, o1, o2, o3, o4, o5⟩
/-- What is found is set. -/
theorem OZ.setf {fs' : List Value} (z : OZ w0 pd bb ps pa pf b3 dl lv D gen life all fs w) (f : Fr [pf] w w') (h : Bk w' pf 33 fs') : OZ w0 pd bb ps pa pf b3 dl lv D gen life all fs' w' := by
  obtain ⟨av, h1, h2, h3⟩ := z.av
  obtain ⟨l, h4, h5⟩ := z.fb3
  obtain ⟨q1, q2, q3⟩ := z.o0
  have o1 := z.o1; have o2 := z.o2; have o3 := z.o3; have o4 := z.o4; have o5 := z.o5
  have no : ∀ i, i < pf → i ∉ [pf] := fun i hi => by simp; omega
  exact ⟨z.fr.trans f (fun i hi => .inr (by simp at hi; omega)), z.dk.fr f (no _ (by omega)) (no _ (by omega)) (fun i hi => no _ (by have := q3 i hi; omega)), z.st.fr f (no _ (by omega)), ⟨av, h1.fr f (no _ (by omega)), h2.fr f (fun i hi => no _ (by have := h3 i hi; omega)), h3⟩, h, ⟨l, h4.fr f (no _ (by omega)), h5⟩, f.get z.fdl (no _ (by omega)), z.o0, o1, o2, o3, o4, o5⟩
end
/-- What Open hands back. -/
def Opened (w : World) (pd bb : Nat) (B : List Blk) (r : Value) (w' : World) : Prop :=
  ∃ ps tv sv lv F2, r = .tuple #[ptr ps, .agg #[.bool (openF B).whole, sv, lv], .int .i64 0] ∧
    Sk w' ps pd bb (.slice none 0 0) tv ⟨B, []⟩ (openF B).gen (openF B).life (openF B).at' (openF B).list.length (openF B).list.length (openF B).tail ∧
    Own w' 5 1 sv (openF B).snap.length (bytes (openF B).snap) ∧ (sOwn.list (by decide)).rd w' [lv] (openF B).list F2 ∧ Fr [pd] w w' ∧
    w.heap.size ≤ ps ∧ (∀ i ∈ fp tv, w.heap.size ≤ i) ∧ (∀ i ∈ fp sv, w.heap.size ≤ i) ∧ (∀ i ∈ F2, w.heap.size ≤ i) ∧
    ps ∉ fp sv ∧ ps ∉ F2 ∧ (∀ i ∈ fp tv, i ∉ fp sv ∧ i ∉ F2) ∧ (∀ i ∈ F2, i ∉ fp sv)

theorem open_c {w : World} {pd bb : Nat} {lv : Value} {D : Dsk} (h : Dk w pd bb lv D) (h2 : 2 ≤ D.B.length ∨ halfN D.B = 0) : CallF Try.prog 18 #[ptr pd] w (Opened w pd bb D.B) := by
  refine C_store_Open_link ?_
  unfold C_store_Open
  have hlt := h.lt
  refine alloc_n (n := 3) (by kernel_rfl) ?_
  intro b3 w1 l3 hl3 hb3 hB3 hF1 hs1
  refine ptr_eql und26 (if_f rfl ?_)
  refine (eldest_c (h.fresh hF1)).use ?_
  rintro _ w2 ⟨rfl, hF2⟩
  refine ⟨[ptr pd, .int .u32 0, .int .u32 (eldest D.B : Nat), .slice none 0 0, .int .i64 0, .int .i64 0, .int .i64 0], by kernel_rfl, by kernel_rfl, ?_⟩
  refine box' (l := [ptr pd, .int .u32 0, .int .u32 (eldest D.B : Nat), .slice none 0 0, .int .i64 0, .int .i64 0, .int .i64 0]) rfl ?_
  intro ps w3 hps hBs hF3 hs3
  refine (root_c (((h.fresh hF1).fresh hF2).fresh hF3)).use ?_
  rintro _ w4 ⟨rfl, hg, hsz, hF4⟩
  refine ext0 (ext1 (ext2 ?_))
  refine nilC (fad (store' (hBs.fr hF4 (by simp)) (by kernel_rfl) (by simp) rfl ?_))
  intro w5 hB5 hF5 hs5
  have z2 := hF2.size
  have z4 := hF4.size
  have hF05 : Fr [] w w5 := (((hF1.t hF2).t hF3).t hF4).trans hF5 (fun i hi => .inr (by simp at hi; omega))
  refine alloc' (l := [.slice none 0 0]) (by kernel_rfl) ?_
  intro pa w6 hpa hBa hF6 hs6
  refine C_store_Store_blocks_link ?_
  unfold C_store_Store_blocks
  refine box' (l := [ptr ps]) rfl ?_
  intro px w7 hpx hBx hF7 hs7
  intro r hyy
  refine callE_of C_store_Store_blocks_1_ent ?_
  obtain ⟨hl1, hl2, hFl, hsl⟩ := loopW_at w7 r
  obtain ⟨dl, hdl⟩ : ∃ dl, w7.heap.size = dl := ⟨_, rfl⟩
  rw [hdl] at hl1 hl2 hsl hyy ⊢
  obtain ⟨q1, q2, q3⟩ := hlt
  have hB5' : Bk w5 ps 124 [ptr pd, .int .u32 (rootF D.B).1, .int .u32 (eldest D.B : Nat), .slice none 0 0, .int .i64 0, .int .i64 0, .int .i64 0] := by simpa using hB5
  have hF57 : Fr [] w5 (loopW w7 r) := (hF6.t hF7).t hFl
  have hF15 : Fr [] w1 w5 := ((hF2.t hF3).t hF4).trans hF5 (fun i hi => .inr (by simp at hi; omega))
  have hlife : eldest D.B < 4294967296 := Nat.mod_lt _ (by omega)
  generalize hgen : (rootF D.B).1 = gen at *
  generalize hlf : eldest D.B = life at *
  have hstep : ∀ (Y : World → List Nat → Prop), Y = (fun w' d => Dk w' pd bb lv D ∧ Bk w' ps 124 [ptr pd, .int .u32 gen, .int .u32 life, .slice none 0 0, .int .i64 0, .int .i64 0, .int .i64 0] ∧ Bk w' px 31 [ptr ps] ∧ (∃ av, Bk w' pa 24 [av] ∧ Own w' 5 1 av d.length (bytes d) ∧ ∀ i ∈ fp av, dl + 1 < i) ∧
      w'.heap[dl + 1]? = some (LO r .ready none) ∧ w'.heap[dl]? = some (.deferred (some [])) ∧ Bk w' b3 33 l3 ∧ Fr [] w w' ∧ (loopW w7 r).heap.size ≤ w'.heap.size) →
      CallF Try.prog 101 #[yv (dl + 1), ptr px] (loopW w7 r) fun r w' => r = .tuple #[] ∧ Y w' (walk (hb D.B gen) gen (halfN D.B) 0 0) := by
    intro Y hYe
    refine sblocks_c (Y := Y) (w0 := loopW w7 r) (ps := ps) (pd := pd) (bb := bb) (lv := lv) (rest := [.int .u32 life, .slice none 0 0, .int .i64 0, .int .i64 0, .int .i64 0]) h2 ?_ ?_ ?_ ?_
    · subst hYe; rintro w' d ⟨k1, k2, k3, _, _, _, _, _, k9⟩
      exact ⟨k1, k2, k3, k9⟩
    · subst hYe; rintro w' w'' d ⟨k1, k2, k3, ⟨av, k4, k5, k6⟩, k7, k8, k9, k10, k11⟩ f
      exact ⟨k1.fresh f, k2.fr f (by simp), k3.fr f (by simp), ⟨av, k4.fr f (by simp), k5.fr f (fun i _ => by simp), k6⟩, f.get k7 (by simp), f.get k8 (by simp), k9.fr f (by simp), k10.t f, by have := f.size; omega⟩
    · subst hYe; rintro w' d x c i ⟨k1, k2, k3, ⟨av, k4, k5, k6⟩, k7, k8, k9, k10, k11⟩ hx hxn hroom
      refine hyy _ _ w' _ k7 ⟨k7, ?_⟩
      have f0 : Fr [dl + 1] w' (setO w' (dl + 1) (LO r .busy none)) := Fr.setO w' _ (.inl (by simp))
      have b0 : (setO w' (dl + 1) (LO r .busy none)).heap[dl + 1]? = some (LO r .busy none) := setO_same _ (heap_lt k7)
      have z0 := setO_size w' (dl + 1) (LO r .busy none)
      generalize setO w' (dl + 1) (LO r .busy none) = wa at *
      have hav : ∀ i ∈ fp av, i ∉ [dl + 1] := fun i hi => by have := k6 i hi; simp; omega
      refine ldC_bk (k4.fr f0 (by simp; omega)) rfl ?_
      have hlen := h.len
      have hh : halfN D.B ≤ 32768 := by unfold halfN; omega
      refine do_append Try.underlying24 infoB rfl (by omega) (k5.fr f0 hav) (hx.fr f0 (fun i hi => by have := hxn i hi; simp; omega)) (bytes_one _) (by omega) (by omega) ?_
      intro av' wb ho hfb hsub
      have no : ∀ i, i ≤ dl + 1 → i ∉ fp av := fun i hi hm => by have := k6 i hm; omega
      obtain ⟨A, cc, hav'⟩ := ho.len
      refine store' ((k4.fr f0 (by simp; omega)).fr hfb (no _ (by omega))) (by kernel_rfl) (by simp) (by rw [hav']; rfl) ?_
      intro wc hBc hfc hsc
      refine ⟨hfc.get (hfb.get b0 (no _ (Nat.le_refl _))) (by simp; omega), rfl, ?_⟩
      have zb := hfb.size
      have hav2 : ∀ i ∈ fp av', dl + 1 < i := fun i hi => (hsub i hi).elim (k6 i) (by omega)
      have f1 : Fr ((dl + 1) :: pa :: fp av) w' wc := ((f0.mono (fun i hi => by simp at hi; simp [hi])).trans hfb (fun i hi => .inl (by simp [hi]))).trans hfc (fun i hi => .inl (by simp at hi; simp [hi]))
      have f2 : Fr ((dl + 1) :: pa :: fp av) w' (setO wc (dl + 1) (LO r .ready none)) := f1.t (Fr.setO wc _ (.inl (by simp)))
      have no2 : ∀ i, i ≤ dl → i ≠ pa → i ∉ (dl + 1) :: pa :: fp av := fun i hi hne hm => by
        simp only [List.mem_cons] at hm
        rcases hm with hm | hm | hm
        · omega
        · exact hne hm
        · exact no i (by omega) hm
      have hlv : ∀ i ∈ fp lv, i ∉ (dl + 1) :: pa :: fp av := fun i hi => by have := q3 i hi; have := hF05.size; exact no2 i (by omega) (by omega)
      have z05 := hF05.size
      refine ⟨k1.fr f2 (no2 _ (by omega) (by omega)) (no2 _ (by omega) (by omega)) hlv, k2.fr f2 (no2 _ (by omega) (by omega)), k3.fr f2 (no2 _ (by omega) (by omega)), ⟨av', ?_, ?_, hav2⟩, setO_same _ (by rw [hsc]; have := heap_lt k7; omega), f2.get k8 (no2 _ (Nat.le_refl _) (by omega)), k9.fr f2 (no2 _ (by omega) (by omega)), k10.trans f2 (fun i hi => .inr ?_), by rw [setO_size]; omega⟩
      · exact (by simpa using hBc : Bk wc pa 24 [av']).setO _ (by omega)
      · rw [bytes_append, List.length_append]
        exact (ho.fr hfc (fun i hi => by have := hav2 i hi; simp; omega)).fr (Fr.setO (X := [dl + 1]) wc _ (.inl (by simp))) (fun i hi => by have := hav2 i hi; simp; omega)
      · simp only [List.mem_cons] at hi
        rcases hi with hi | hi | hi
        · omega
        · omega
        · have := k6 i hi; omega
    · subst hYe
      have hF0l := hF05.t hF57
      refine ⟨h.fresh hF0l, hB5'.fr hF57 (by simp), hBx.fr hFl (by simp), ⟨.slice none 0 0, (hBa.fr hF7 (by simp)).fr hFl (by simp), Own.nil _ _ _, by simp [fp_nil]⟩, hl2, hl1, (hB3.fr hF15 (by simp)).fr hF57 (by simp), hF0l, Nat.le_refl _⟩
  refine CallF.use (hstep _ rfl) ?_
  rintro _ w8 ⟨-, k1, k2, k3, ⟨av, k4, k5, k6⟩, k7, k8, k9, k10, k11⟩
  clear hstep hyy
  refine ⟨.ready, k7, (by intro e; cases e), ?_⟩
  have hall : walk (hb D.B gen) gen (halfN D.B) 0 0 = allF D.B := by unfold allF; rw [hgen]
  have hallb : ∀ x ∈ allF D.B, x < 256 := by
    rw [← hall]
    exact St.walk_lt (fun i => (St.hb_64 h.all gen i).2) _ _ _
  have halll : (allF D.B).length ≤ 1802240 := by
    have := St.walk_length (H := hb D.B gen) (gen := gen) (halfN D.B) 0 0
    rw [hall] at this
    have hlen := h.len
    have hh : halfN D.B ≤ 32768 := by unfold halfN; omega
    omega
  rw [hall] at k5
  refine ⟨[.bool (rootF D.B).2.2, .slice none 0 0, .slice none 0 0], by kernel_rfl, by kernel_rfl, ?_⟩
  have f8 : Fr [dl + 1] w8 (setO w8 (dl + 1) (LO r .exhausted none)) := Fr.setO w8 _ (.inl (by simp))
  have z8 := setO_size w8 (dl + 1) (LO r .exhausted none)
  generalize setO w8 (dl + 1) (LO r .exhausted none) = w9 at *
  refine alloc_n (n := 3) (by kernel_rfl) ?_
  intro pf w10 lf hlfl hpf hBf hF10 hs10
  refine store_all (vs := [.bool (rootF D.B).2.2, .slice none 0 0, .slice none 0 0]) hBf (by kernel_rfl) hlfl rfl (by omega) (by simp [Value.oneCell']) ?_
  intro w11 hB11 hF11 hs11
  have z05 := hF05.size
  have k5lt := k5.lt
  have z1 : OZ w pd bb ps pa pf b3 dl lv D gen life (allF D.B) [.bool (rootF D.B).2.2, .slice none 0 0, .slice none 0 0] w11 := by
    have f : Fr [dl + 1, pf] w8 w11 := ((f8.mono (fun i hi => by simp at hi; simp [hi])).t (hF10.mono (fun i hi => by simp at hi))).t (hF11.mono (fun i hi => by simp at hi; simp [hi]))
    have no : ∀ i, i ≤ dl → i ∉ [dl + 1, pf] := fun i hi => by simp; omega
    exact ⟨k10.trans f (fun i hi => .inr (by simp at hi; omega)), k1.fr f (no _ (by omega)) (no _ (by omega)) (fun i hi => no _ (by have := q3 i hi; omega)), k2.fr f (no _ (by omega)), ⟨av, k4.fr f (no _ (by omega)), k5.fr f (fun i hi => by have := k6 i hi; have := k5lt i hi; simp; omega), fun i hi => by have := k6 i hi; have := k5lt i hi; omega⟩, hB11, ⟨l3, k9.fr f (no _ (by omega)), hl3⟩, f.get k8 (no _ (Nat.le_refl _)), ⟨q1, q2, q3⟩, by omega, by omega, by omega, by omega, by omega⟩
  clear k1 k2 k3 k4 k5 k6 k7 k8 k9 k10 k11 k5lt hB11 hF11 hBf hF10 f8 hl1 hl2 hFl hsl hBx hBa hB5 hB5' hF57 hBs hB3 hF15
  obtain ⟨av, a1, a2, a3⟩ := z1.av
  refine ldC_bk a1 rfl (a2.sl.lenV (gtr ?_))
  have hopen : openF D.B = if (allF D.B).length < (rootF D.B).2.1 then foundOf gen life false 0 [] else foundOf gen life (rootF D.B).2.2 (rootF D.B).2.1 (allF D.B) := by
    unfold openF; rw [hgen, hlf]
  have zpf := z1.fpf.lt
  clear a1 a2 a3 av
  -- behind the records
  have last : ∀ (sz e : Nat) (all : List Nat) (wh : Bool) (sv lsv : Value) (lj : List (List Nat)) (w15 : World), openF D.B = foundOf gen life wh sz all → sz ≤ all.length → e = sz + (encAll lj).length → e ≤ all.length → all.length ≤ 1802240 → lj = recs (all.drop sz) → OZ w pd bb ps pa pf b3 dl lv D gen life all [.bool wh, sv, lsv] w15 →
      Own w15 5 1 sv (all.take sz).length (bytes (all.take sz)) → (∀ i ∈ fp sv, pf < i) → (∃ B, (∀ i ∈ fp sv, i < B) ∧ pf < B ∧ Ga sOwn 24 B w15 lsv lj) →
       (Bin Try.prog (At w15) .quo 3 false true (.int .i64 e) (.int .i64 55) fun t95_59 =>
       LdC (At w15) (ptr pa) fun t96_60 =>
       Bin Try.prog (At w15) .quo 3 false true (.int .i64 e) (.int .i64 55) fun t98_61 =>
       Bin Try.prog (At w15) .mul 3 false true t98_61 (.int .i64 55) fun t99_62 =>
       SlcS 1 t96_60 (some t99_62) (some (.int .i64 e)) none fun t101_63 =>
       Do Try.prog (Builtin.append_ #[24, 24] 24 #[(.slice none 0 0), t101_63]) w15 fun t102_64 w_65 =>
       NilC (ptr ps) fun t103_66 =>
       FAd 4 t103_66 fun t104_67 =>
       DoU Try.prog (Instr.storeAt 3 t104_67 t95_59) w_65 fun u_68 w_69 =>
       NilC (ptr ps) fun t105_70 =>
       FAd 3 t105_70 fun t106_71 =>
       DoU Try.prog (Instr.storeAt 24 t106_71 t102_64) w_69 fun u_72 w_73 =>
       ∃ S_74 : World → Prop, S_74 (World.drew w_73) ∧
       FAd 2 (ptr pf) fun t109_75 =>
       LdC S_74 t109_75 fun t110_76 =>
       Len t110_76 fun t111_77 =>
       FAd 2 (ptr pf) fun t112_78 =>
       LdC S_74 t112_78 fun t113_79 =>
       Len t113_79 fun t114_80 =>
       NilC (ptr ps) fun t115_81 =>
       FAd 5 t115_81 fun t116_82 =>
       DoU Try.prog (Instr.storeAt 3 t116_82 t111_77) (World.drew w_73) fun u_83 w_84 =>
       S_74 w_84 ∧
       NilC (ptr ps) fun t117_85 =>
       FAd 6 t117_85 fun t118_86 =>
       DoU Try.prog (Instr.storeAt 3 t118_86 t114_80) w_84 fun u_87 w_88 =>
       CallF Try.prog 69 #[ptr pd] w_88 fun t120_89 w_90 =>
       ∃ S_91 : World → Prop, S_91 (World.drew w_90) ∧
       LdA S_91 3 (ptr pf) fun t122_92 =>
       DoU Try.prog (Instr.storeAt 33 (ptr b3) t122_92) (World.drew w_90) fun u_93 w_94 =>
       w_94.heap[dl]? = some (.deferred (some [])) ∧
       LdA (At (setO w_94 dl (.deferred none))) 3 (ptr b3) fun r_95 =>
       Opened w pd bb D.B (.tuple #[ptr ps, r_95, (.int .i64 0)]) (setO w_94 dl (.deferred none))) := by
    intro sz e all wh sv lsv lj w15 hop hsz2 he hea halen hlj z hsv hsvn hga
    obtain ⟨B, hB1, hB2, ga⟩ := hga
    obtain ⟨av, a1, a2, a3⟩ := z.av
    have o1 := z.o1; have o2 := z.o2; have o3 := z.o3; have o4 := z.o4; have o5 := z.o5
    have e1 : ((e : Int).tdiv 55) = ((e / 55 : Nat) : Int) := rfl
    have e2 : IntKind.i64.wrap ((e / 55 : Nat) : Int) = ((e / 55 : Nat) : Int) := Go.IntWalk.i64_in _ (by omega)
    refine quo (by omega) ?_
    rw [e1, e2]
    refine ldC_bk a1 rfl (quo (by omega) ?_)
    rw [e1, e2]
    refine mul64 (by omega) ?_
    have e3 : ((e / 55 : Nat) : Int) * 55 = ((e / 55 * 55 : Nat) : Int) := by push_cast; rfl
    rw [e3]
    refine blh (l := e / 55 * 55) (m := e) a2.sl a2.cap (by omega) hea ?_
    intro x16 hx16 _ _
    have hlen16 : ((all.take e).drop (e / 55 * 55)).length < 55 := by rw [List.length_drop, List.length_take]; omega
    refine row_append (row_nil w15) hx16 (by simp only [List.length_nil]; omega) ?_
    intro tv w16 hN16 _ _
    rw [List.nil_append] at hN16
    have zz := z.step hN16.fr (by simp)
    have hga16 := ga.fr hN16.fr (by simp)
    have hsv16 := hsv.fr hN16.fr (fun i _ => by simp)
    have hplt := z.fpf.lt
    have htv : ∀ i ∈ fp tv, w15.heap.size ≤ i := hN16.new
    obtain ⟨At, ct, htve⟩ := hN16.own.len
    refine nilC (fad (store' zz.st (by kernel_rfl) (by simp) rfl ?_))
    intro w17 hB17 hF17 hs17
    refine nilC (fad (store' hB17 (by kernel_rfl) (by simp) (by rw [htve]; rfl) ?_))
    intro w18 hB18 hF18 hs18
    obtain ⟨Al, cl, hlse⟩ := ga.slice
    have g1618 : Fr [ps] w16 w18 := hF17.t hF18
    have hpf18 := zz.fpf.fr g1618 (by simp; omega)
    refine ⟨fun w' => Bk w' pf 33 [.bool wh, sv, lsv], hpf18.drew, ?_⟩
    rw [hlse] at hpf18 ⊢
    refine fad (ldC_S (fun w' h => h) rfl (len (fad (ldC_S (fun w' h => h) rfl (len ?_)))))
    refine nilC (fad (store' hB18.drew (by kernel_rfl) (by simp) rfl ?_))
    intro w19 hB19 hF19 hs19
    have hpf19 := hpf18.drew.fr hF19 (by simp; omega)
    refine ⟨hpf19, ?_⟩
    refine nilC (fad (store' hB19 (by kernel_rfl) (by simp) rfl ?_))
    intro w20 hB20 hF20 hs20
    have g1620 : Fr [ps] w16 w20 := ((g1618.t (Fr.drew _ w18)).t hF19).t hF20
    have hB20' : Bk w20 ps 124 [ptr pd, .int .u32 gen, .int .u32 life, tv, .int .i64 (e / 55 : Nat), .int .i64 lj.length, .int .i64 lj.length] := by simpa using hB20
    obtain ⟨q1, q2, q3⟩ := z.o0
    have hd20 := zz.dk.fr g1620 (by simp; omega) (by simp; omega) (fun i hi => by have := q3 i hi; simp; omega)
    refine (dsync_c hd20).use ?_
    rintro _ w21 ⟨rfl, hd21, hF21, hs21⟩
    have hpf21 := (hpf19.fr hF20 (by simp; omega)).fr hF21 (by simp; omega)
    refine ⟨fun w' => Bk w' pf 33 [.bool wh, sv, .slice Al lj.length cl], hpf21.drew, ?_⟩
    refine ldA_S (l := [.bool wh, sv, .slice Al lj.length cl]) (fun w' h => h) (by simp) ?_
    obtain ⟨l3', hb3', hl3'⟩ := zz.fb3
    have hb321 := (hb3'.fr g1620 (by simp; omega)).fr hF21 (by simp; omega)
    have osv : sv.oneCell' = true := by obtain ⟨_, _, rfl⟩ := hsv.len; rfl
    refine store_all (vs := [.bool wh, sv, .slice Al lj.length cl]) hb321.drew (by kernel_rfl) hl3' rfl (by omega) (fun u hu => by
      simp only [List.mem_cons, List.not_mem_nil, or_false] at hu
      rcases hu with rfl | rfl | rfl <;> first | rfl | assumption) ?_
    intro w22 hB22 hF22 hs22
    have hdl22 : w22.heap[dl]? = some (.deferred (some [])) := hF22.get (show (World.drew w21).heap[dl]? = _ from hF21.get (g1620.get zz.fdl (by simp; omega)) (by simp; omega)) (by simp; omega)
    refine ⟨hdl22, ?_⟩
    have fE : Fr [dl] w22 (setO w22 dl (.deferred none)) := Fr.setO w22 _ (.inl (by simp))
    generalize setO w22 dl (.deferred none) = w23 at *
    refine ldA_bk (hB22.fr fE (by simp; omega)) (by simp) ?_
    have g1623 : Fr [ps, pd, b3, dl] w16 w23 := (((g1620.mono (fun i hi => .inl (by simp at hi; simp [hi]))).t (hF21.mono (fun i hi => .inl (by simp at hi; simp [hi])))).t ((Fr.drew _ w21).t (hF22.mono (fun i hi => .inl (by simp at hi; simp [hi]))))).t (fE.mono (fun i hi => .inl (by simp at hi; simp [hi])))
    have g2023 : Fr [pd, b3, dl] w20 w23 := ((hF21.mono (fun i hi => .inl (by simp at hi; simp [hi]))).t ((Fr.drew _ w21).t (hF22.mono (fun i hi => .inl (by simp at hi; simp [hi]))))).t (fE.mono (fun i hi => .inl (by simp at hi; simp [hi])))
    have g2123 : Fr [b3, dl] w21 w23 := ((Fr.drew _ w21).t (hF22.mono (fun i hi => .inl (by simp at hi; simp [hi])))).t (fE.mono (fun i hi => .inl (by simp at hi; simp [hi])))
    have htvn : ∀ i ∈ fp tv, pf < i := fun i hi => by have := htv i hi; omega
    have hfound : openF D.B = ⟨gen, life, wh, all.take sz, lj, e / 55, (all.take e).drop (e / 55 * 55)⟩ := by
      rw [hop]; unfold foundOf; rw [← hlj, ← he]
    obtain ⟨F2, hF2, hF2B⟩ := ga.rd (by decide)
    have hF2lt := (sOwn.list (by decide)).lt hF2
    replace hF2 := (sOwn.list (by decide)).fr ((sOwn.list (by decide)).fr hF2 hN16.fr (fun i _ => by simp)) g1623 (fun i hi => by have := hF2B i hi; simp; omega)
    have w0w15 := z.fr.size
    unfold Opened
    rw [hfound]
    rw [hlse] at hF2
    refine ⟨ps, tv, sv, .slice Al lj.length cl, F2, rfl, ?_, ?_, hF2, ?_, by omega, fun i hi => by have := htvn i hi; omega, fun i hi => by have := hsvn i hi; omega, fun i hi => by have := hF2B i hi; omega, ?_, ?_, ?_, ?_⟩
    · refine ⟨?_, hB20'.fr g2023 (by simp; omega), hN16.own.fr g1623 (fun i hi => by have := htvn i hi; simp; omega), by omega, by omega, by simp [fp_nil], fun hm => by have := htvn ps hm; omega, fun hm => by have := htvn pd hm; omega, fun hm => by have := htvn bb hm; omega, by simp [fp_nil], hg, hlife⟩
      exact hd21.fr g2123 (by simp; omega) (by simp; omega) (by simp [fp_nil])
    · exact hsv16.fr g1623 (fun i hi => by have := hsvn i hi; simp; omega)
    · refine (zz.fr.mono (Y := [pd]) (fun i hi => by simp at hi)).trans g1623 (fun i hi => ?_)
      simp only [List.mem_cons, List.not_mem_nil, or_false] at hi
      rcases hi with h' | h' | h' | h'
      · exact .inr (by omega)
      · exact .inl (by simp [h'])
      · exact .inr (by omega)
      · exact .inr (by omega)
    · intro hm; have := hsvn ps hm; omega
    · intro hm; have := hF2B ps hm; omega
    · intro i hi
      exact ⟨fun hm => by have := hsv.lt i hm; have := htv i hi; omega, fun hm => by have := hF2lt i hm; have := htv i hi; omega⟩
    · intro i hi hm; have := hF2B i hi; have := hB1 i hm; omega
  -- the snapshot, and the records behind it
  refine ⟨fun size' w' => ∃ (sz : Nat) (all : List Nat) (wh : Bool), size' = .int .i64 sz ∧ openF D.B = foundOf gen life wh sz all ∧ sz ≤ all.length ∧ all.length ≤ 1802240 ∧ (∀ x ∈ all, x < 256) ∧ OZ w pd bb ps pa pf b3 dl lv D gen life all [.bool wh, .slice none 0 0, .slice none 0 0] w', ?_, ?_⟩
  · rintro _ w12 ⟨sz, all, wh, rfl, hop, hsz2, hal, halb, z⟩
    obtain ⟨av, a1, a2, a3⟩ := z.av
    have zlt := z.fpf.lt
    refine ldC_bk a1 rfl (bhi (m := sz) a2.sl a2.cap hsz2 ?_)
    intro x13 hx13 _ _
    refine row_append (row_nil w12) hx13 (by simp only [List.length_nil, List.length_take]; omega) ?_
    intro sv w13 hN13 _ _
    rw [List.nil_append] at hN13
    have z13 := z.step hN13.fr (by simp)
    have osv : sv.oneCell' = true := by obtain ⟨_, _, rfl⟩ := hN13.own.len; rfl
    refine fad (store' z13.fpf (by kernel_rfl) (by simp) osv ?_)
    intro w14 hB14 hF14 hs14
    have hsvn : ∀ i ∈ fp sv, pf < i := fun i hi => by have := hN13.new i hi; omega
    have z14 : OZ w pd bb ps pa pf b3 dl lv D gen life all [.bool wh, sv, .slice none 0 0] w14 := z13.setf hF14 (by simpa using hB14)
    have hsv14 := hN13.own.fr hF14 (fun i hi => by have := hsvn i hi; simp; omega)
    have hsvlt := hsv14.lt
    obtain ⟨B, hBe⟩ : ∃ B, w14.heap.size = B := ⟨_, rfl⟩
    have hpfB : pf < B := by have := hN13.fr.size; omega
    rw [hBe] at hsvlt
    refine ⟨fun end' w' => ∃ (e : Nat) (lsv : Value) (lj : List (List Nat)), end' = .int .i64 e ∧ e = sz + (encAll lj).length ∧ e ≤ all.length ∧ lj = recs (all.drop sz) ∧ OZ w pd bb ps pa pf b3 dl lv D gen life all [.bool wh, sv, lsv] w' ∧ Own w' 5 1 sv (all.take sz).length (bytes (all.take sz)) ∧ Ga sOwn 24 B w' lsv lj, ?_, ?_⟩
    · rintro _ w15 ⟨e, lsv, lj, rfl, he, hea, hlj, z15, hsv15, ga⟩
      exact last sz e all wh sv lsv lj w15 hop hsz2 he hea hal hlj z15 hsv15 hsvn ⟨B, hsvlt, hpfB, ga⟩
    refine ⟨fun m end' w' => ∃ (e : Nat) (lsv : Value) (lj : List (List Nat)), end' = .int .i64 e ∧ e + m = all.length ∧ e = sz + (encAll lj).length ∧ lj.length ≤ e ∧ recs (all.drop sz) = lj ++ recs (all.drop e) ∧ OZ w pd bb ps pa pf b3 dl lv D gen life all [.bool wh, sv, lsv] w' ∧ Own w' 5 1 sv (all.take sz).length (bytes (all.take sz)) ∧ Ga sOwn 24 B w' lsv lj ∧ B ≤ w'.heap.size, all.length - sz,
      ⟨sz, .slice none 0 0, [], rfl, by omega, by simp [encAll], by simp, rfl, z14, hsv14, Ga.nil _ _ _ _, by omega⟩, ?_⟩
    rintro m _ w15 ⟨e, lsv, lj, rfl, hm, he, hlje, hrec, z15, hsv15, ga, hBw⟩
    obtain ⟨av15, b1, b2, b3'⟩ := z15.av
    refine ldC_bk b1 rfl (b2.sl.lenV (sub64 (by omega) (geq (if_p (fun hge => ?_) (fun hlt => ?_)))))
    case refine_2 =>
      have hst : recs (all.drop e) = [] := recs_stop (fun ho => by have := (St.oneRec_iff _).1 ho; rw [List.length_drop] at this; omega)
      rw [hst, List.append_nil] at hrec
      exact ⟨rfl, e, lsv, lj, rfl, he, by omega, hrec.symm, z15, hsv15, ga⟩
    refine ldC_bk b1 rfl (blo (l := e) b2.sl b2.cap (by omega) ?_)
    intro x16 hx16 _ _
    refine (four_c hx16 (by rw [List.length_drop]; omega) (fun c hc => halb c (List.mem_of_mem_drop hc))).use ?_
    rintro _ w16 ⟨rfl, hF16⟩
    have hf := St.four_lt (l := all.drop e) (fun c hc => halb c (List.mem_of_mem_drop hc))
    have hone := St.oneRec_iff (all.drop e)
    rw [List.length_drop] at hone
    have z16 := z15.step hF16 (by simp)
    have hsv16 := hsv15.fr hF16 (fun i _ => by simp)
    have ga16 := ga.fr hF16 (by simp)
    have hstep := recs_step (l := all.drop e)
    have hstop := recs_stop (l := all.drop e)
    have edrop : (all.drop e).drop (4 + four (all.drop e)) = all.drop (e + 4 + four (all.drop e)) := by rw [List.drop_drop, Nat.add_assoc]
    have etake : (all.take (e + 4 + four (all.drop e))).drop (e + 4) = ((all.drop e).drop 4).take (four (all.drop e)) := by
      rw [List.drop_take, List.drop_drop, Nat.add_sub_cancel_left]
    have eplen : (((all.drop e).drop 4).take (four (all.drop e))).length = min (four (all.drop e)) (all.length - (e + 4)) := by
      rw [List.length_take, List.length_drop, List.length_drop, Nat.sub_sub]
    generalize four (all.drop e) = n at *
    refine conv_i64 (by omega) (gtr ?_)
    have brk : ¬ (n ≤ 65536 ∧ n ≤ all.length - e - 4) → (([dl] : List Nat) = [dl] ∧ ∃ (e' : Nat) (lsv : Value) (lj : List (List Nat)), Value.int .i64 (e : Int) = .int .i64 e' ∧ e' = sz + (encAll lj).length ∧ e' ≤ all.length ∧ lj = recs (all.drop sz) ∧ OZ w pd bb ps pa pf b3 dl lv D gen life all [.bool wh, sv, lsv] w16 ∧ Own w16 5 1 sv (all.take sz).length (bytes (all.take sz)) ∧ Ga sOwn 24 B w16 lsv lj) := fun hn => by
      have hst := hstop (fun ho => hn (by have := hone.1 ho; omega))
      rw [hst, List.append_nil] at hrec
      exact ⟨rfl, e, lsv, lj, rfl, he, by omega, hrec.symm, z16, hsv16, ga16⟩
    obtain ⟨av16, c1, c2, c3⟩ := z16.av
    have hlv16 := c2.sl
    by_cases h6 : (65536 : Int) < (n : Int)
    · exact gdF (by simp [isB, h6]) (gdF (by simp [isB, h6]) (gdF (by simp [isB, h6]) (gdF (by simp [isB, h6]) (gdF (by simp [isB, h6]) (gdF (by simp [isB, h6]) (gdF (by simp [isB, h6]) (pick_t (by simp [h6]) (if_t rfl (brk (by omega)))))))))) 
    refine gdT (by simp [isB, h6]) rfl (gdT (by simp [isB, h6]) (ldC_bk c1 rfl rfl) (gdT (by simp [isB, h6]) (c2.sl.lenV rfl) (gdT (by simp [isB, h6]) rfl (gdT (by simp [isB, h6]) (sub64 (by omega) rfl) (gdT (by simp [isB, h6]) (sub64 (by omega) rfl) (gdT (by simp [isB, h6]) (gtr rfl) (pick_f (by simp [h6]) ?_)))))))
    refine if_p (fun h7 => brk (by omega)) (fun h7 => ?_)
    clear brk
    have hst := hstep (hone.2 (by omega))
    rw [hst, edrop] at hrec
    have z17 := z16.step (Fr.drew [] w16) (by simp)
    obtain ⟨av17, d1, d2, d3⟩ := z17.av
    refine ⟨fun w' => Bk w' pf 33 [.bool wh, sv, lsv] ∧ Bk w' pa 24 [av17], ⟨z17.fpf, d1⟩, ?_⟩
    refine fad (ldC_S (fun w' h => h.1) rfl (ldC_S (fun w' h => h.2) rfl (add64 (by omega) (add64 (by omega) (add64 (by omega) ?_)))))
    rw [show (e : Int) + 4 = ((e + 4 : Nat) : Int) by omega, show ((e + 4 : Nat) : Int) + (n : Int) = ((e + 4 + n : Nat) : Int) by omega]
    refine blh (l := e + 4) (m := e + 4 + n) d2.sl d2.cap (by omega) (by omega) ?_
    intro x18 hx18 _ _
    rw [etake] at hx18
    have hpl : (((all.drop e).drop 4).take n).length = n := by rw [eplen]; omega
    generalize ((all.drop e).drop 4).take n = p at *
    refine row_append (row_nil (World.drew w16)) hx18 (by simp only [List.length_nil]; omega) ?_
    intro x19 w19 hN19 _ _
    rw [List.nil_append] at hN19
    have z19 := z17.step hN19.fr (by simp)
    have hsz17 : (World.drew w16).heap.size = w16.heap.size := rfl
    have hsz16 := hF16.size
    have ga19 := (ga16.fr (Fr.drew [] w16) (by simp)).fr hN19.fr (by simp)
    have hsv19 := (hsv16.fr (Fr.drew [] w16) (fun i _ => by simp)).fr hN19.fr (fun i _ => by simp)
    have hlow := ga19.low
    have hlvlt := ga.lt
    have opa := z19.o4
    have opf := z19.o5
    have S19 : ∀ w', Fr (fp lsv) w19 w' → Bk w' pf 33 [.bool wh, sv, lsv] ∧ Bk w' pa 24 [av17] := fun w' f =>
      ⟨z19.fpf.fr f (fun hm => by have := hlow pf hm; omega), (d1.fr hN19.fr (by simp)).fr f (fun hm => by have := hlow pa hm; omega)⟩
    refine ⟨S19 _ (Fr.refl _ _), ?_⟩
    have hz19 := hN19.fr.size
    refine ga19.push_S (S := sOwn) (a := p) (z := .slice none 0 0) (bytes := 24) (cs := [x19]) (F := fp x19) (by decide) (by decide) (by decide) (by omega) (by omega) Try.underlying23 (by kernel_rfl) (by kernel_rfl) ⟨x19, rfl, hN19.own, rfl⟩ (fun i hi => by have := hN19.new i hi; exact ⟨by omega, fun hm => by have := hlvlt i hm; omega⟩) (by obtain ⟨_, _, rfl⟩ := hN19.own.len; rfl) (fun w' f => ⟨S19 w' f, S19 w' f⟩) ?_
    intro lsv' w20 ga20 hF20
    have z20 := z19.step hF20 (fun i hi => by have := hlow i hi; omega)
    have hsv20 := hsv19.fr hF20 (fun i hi hm => by have := hlow i hm; have := hsvlt i hi; omega)
    refine fad (store' z20.fpf (by kernel_rfl) (by simp) ga20.one ?_)
    intro w21 hB21 hF21 hs21
    have z21 : OZ w pd bb ps pa pf b3 dl lv D gen life all [.bool wh, sv, lsv'] w21 := z20.setf hF21 (by simpa using hB21)
    have hsv21 := hsv20.fr hF21 (fun i hi => by have := hsvn i hi; simp; omega)
    have ga21 := ga20.fr hF21 (by simp; omega)
    refine add64 (by omega) (add64 (by omega) ⟨m - (4 + n), by omega, rfl, e + 4 + n, lsv', lj ++ [p], by congr 1; omega, by omega, ?_, by simp; omega, ?_, z21, hsv21, ga21, ?_⟩)
    · have : (encAll (lj ++ [p])).length = (encAll lj).length + (4 + n) := by
        rw [St.encAll_append, List.length_append]
        congr 1
        simp [encAll, St.encRec, put4]; omega
      rw [this]; omega
    · rw [hrec]; simp
    · have := hF20.size; omega
  · refine if_p (fun hgt => ?_) (fun hle => ?_)
    · refine ⟨[.bool false, .slice none 0 0, .slice none 0 0], by kernel_rfl, by kernel_rfl, ?_⟩
      refine store_all (n := 3) (vs := [.bool false, .slice none 0 0, .slice none 0 0]) z1.fpf (by kernel_rfl) rfl rfl (by omega) (by simp [Value.oneCell']) ?_
      intro w12 hB12 hF12 hs12
      have z12 : OZ w pd bb ps pa pf b3 dl lv D gen life (allF D.B) [.bool false, .slice none 0 0, .slice none 0 0] w12 := z1.setf hF12 hB12
      obtain ⟨av, a1, a2, a3⟩ := z12.av
      refine store' a1 (by kernel_rfl) (by simp) rfl ?_
      intro w13 hB13 hF13 hs13
      have o1 := z12.o1
      have o2 := z12.o2
      have o3 := z12.o3
      have o4 := z12.o4
      have o5 := z12.o5
      obtain ⟨l3', m1, m2⟩ := z12.fb3
      clear last
      have no : ∀ i, i ≠ pa → i ∉ [pa] := fun i hi => by simpa using hi
      have hgt' : (allF D.B).length < (rootF D.B).2.1 := by omega
      refine ⟨rfl, 0, [], false, rfl, by rw [hopen, if_pos hgt'], Nat.le_refl _, by simp, by simp, ?_⟩
      exact ⟨z12.fr.trans hF13 (fun i hi => .inr (by simp at hi; omega)), z12.dk.fr hF13 (no _ (by omega)) (no _ (by omega)) (fun i hi => no _ (by have := q3 i hi; omega)), z12.st.fr hF13 (no _ (by omega)), ⟨.slice none 0 0, by simpa using hB13, Own.nil _ _ _, by simp [fp_nil]⟩, z12.fpf.fr hF13 (no _ (by omega)), ⟨l3', m1.fr hF13 (no _ (by omega)), m2⟩, hF13.get z12.fdl (no _ (by omega)), z12.o0, o1, o2, o3, o4, o5⟩
    · exact ⟨rfl, (rootF D.B).2.1, allF D.B, (rootF D.B).2.2, rfl, by rw [hopen, if_neg (by omega)], by omega, halll, hallb, z1⟩
end Go.Proofs.Ytmlaconjeplhpaa
