/- From the reading of an argument, as the statements have it, to its shape in memory. The arguments of layer 15's laws: from their reading to their shape; how a law's contract becomes its row. The arguments of layer 16's laws: from their reading to their shape. -/
import Derived.Test.YtmlaconjeplhpaaRows
import Derived.Test.YtmlaconjeplhpaaMB
import Derived.ProofKit
import Derived.OpenShut
import Derived.JoinedCond
import Derived.ChangeOld
import Derived.Below
import Derived.Carry
import Derived.Test.YtmlaconjeplhpaaME
import Derived.Test.YtmlaconjeplhpaaMJ
set_option linter.unusedVariables false
set_option linter.unusedSimpArgs false
set_option maxRecDepth 20000
namespace Go.Proofs.Ytmlaconjeplhpaa
open Go Go.Vc Go.ChangeShapes Go.WideShapes Go.ChangeAt Go.RowKit

theorem one_le {H : Type} (d : DataW H) : 1 ≤ Rows.uptoBulk d := by
  cases d with
  | lit l => cases l <;> simp [Rows.uptoBulk]
  | nil => simp [Rows.uptoBulk]
  | ptr d => simp [Rows.uptoBulk]
  | slice elems spare => simp [Rows.uptoBulk]
  | agg parts => simp [Rows.uptoBulk]
  | iface t d => simp [Rows.uptoBulk]
  | map entries => simp [Rows.uptoBulk]
  | held h => simp [Rows.uptoBulk]

/-- Whatever is read as of this type has this shape, and holds so many values at the most. -/
def Fits {α : Type} (t : TypeId) (S : Shape α) (m : α → Nat) : Prop :=
  ∀ (H : Type) (enc : TypeId × Value → H) (W : World) (fuel : Nat) (cs : List Value) (d : DataW H) (ps : List MemPlace), DataW.trod enc Try.prog W 0 (fun _ => true) true fuel t cs = some (d, ps) → ∃ a F, S.rd W cs a F ∧ m a ≤ Rows.uptoBulk d
theorem wf_i64 {a : Int} (h : (Lit.int .i64 a).wf = true) : -9223372036854775808 ≤ a ∧ a ≤ 9223372036854775807 := by
  simpa [Lit.wf, IntKind.min, IntKind.max, IntKind.signed, IntKind.bits] using h
theorem wf_u8 {a : Int} (h : (Lit.int .u8 a).wf = true) : 0 ≤ a ∧ a ≤ 255 := by
  simpa [Lit.wf, IntKind.min, IntKind.max, IntKind.signed, IntKind.bits] using h
theorem fits_int {t : TypeId} (hu : Try.prog.underlying t = some (.int .i64)) : Fits t sInt (fun _ => 1) := by
  intro H enc W fuel cs d ps h
  cases fuel with
  | zero => simp [DataW.trod] at h
  | succ n =>
    unfold DataW.trod at h
    rw [hu] at h
    split at h
    all_goals first | (rename_i e1 e2; cases e1; done) | skip
    all_goals (try (simp at *; done))
    · rename_i k k' a e1
      cases e1
      split at h
      · rename_i hk
        obtain ⟨rfl, hwf⟩ := hk
        simp only [Option.some.injEq, Prod.mk.injEq] at h
        obtain ⟨rfl, _⟩ := h
        exact ⟨a, [], ⟨rfl, rfl, wf_i64 hwf⟩, one_le _⟩
      · cases h
theorem fits_byte {t : TypeId} (hu : Try.prog.underlying t = some (.int .u8)) : Fits t sByte (fun _ => 1) := by
  intro H enc W fuel cs d ps h
  cases fuel with
  | zero => simp [DataW.trod] at h
  | succ n =>
    unfold DataW.trod at h
    rw [hu] at h
    split at h
    all_goals (try (simp at *; done))
    · rename_i k k' a e1
      cases e1
      split at h
      · rename_i hk
        obtain ⟨rfl, hwf⟩ := hk
        simp only [Option.some.injEq, Prod.mk.injEq] at h
        obtain ⟨rfl, _⟩ := h
        have := wf_u8 hwf
        exact ⟨a.toNat, [], ⟨by rw [show ((a.toNat : Nat) : Int) = a by omega], rfl, by omega⟩, one_le _⟩
      · cases h
theorem fits_bool {t : TypeId} (hu : Try.prog.underlying t = some .bool) : Fits t sBool (fun _ => 1) := by
  intro H enc W fuel cs d ps h
  cases fuel with
  | zero => simp [DataW.trod] at h
  | succ n =>
    unfold DataW.trod at h
    rw [hu] at h
    split at h
    all_goals (try (simp at *; done))
    · simp only [Option.some.injEq, Prod.mk.injEq] at h
      obtain ⟨rfl, _⟩ := h
      exact ⟨_, [], ⟨rfl, rfl⟩, one_le _⟩

theorem mapM_cons_some {α β : Type} {f : α → Option β} {x : α} {l : List α} {ys : List β} (h : (x :: l).mapM f = some ys) : ∃ y ys', f x = some y ∧ l.mapM f = some ys' ∧ ys = y :: ys' := by
  rw [List.mapM_cons] at h
  simp only [Option.bind_eq_bind, Option.bind_eq_some_iff, Option.pure_def, Option.some.injEq] at h
  obtain ⟨y, hy, ys', hys, rfl⟩ := h
  exact ⟨y, ys', hy, hys, rfl⟩
theorem mapM_nil_some {α β : Type} {f : α → Option β} {ys : List β} (h : ([] : List α).mapM f = some ys) : ys = [] := by
  simpa using h.symm

/-- The same of a struct's fields, from a place on. -/
def FitsFs {α : Type} (fs : List Field) (o : Nat) (S : Shape α) (m : α → Nat) : Prop :=
  ∀ (H : Type) (enc : TypeId × Value → H) (W : World) (n : Nat) (cs : List Value) (xs : List (DataW H × List MemPlace)),
    fs.mapM (fun f : Field => DataW.trod enc Try.prog W 0 (fun _ => true) true n f.type ((cs.drop f.offset).take (Try.prog.cellsOf f.type))) = some xs → cs.length = o + S.size →
    ∃ a F, S.rd W (cs.drop o) a F ∧ m a ≤ Rows.uptoBulkAll (xs.map (·.1))
theorem fits_last {α : Type} {f : Field} {S : Shape α} {m : α → Nat} (h : Fits f.type S m) (hc : Try.prog.cellsOf f.type = S.size) : FitsFs [f] f.offset S m := by
  intro H enc W n cs xs hm hl
  obtain ⟨y, ys, hy, hys, rfl⟩ := mapM_cons_some hm
  obtain ⟨d, ps⟩ := y
  obtain ⟨a, F, hrd, hle⟩ := h H enc W n _ d ps hy
  rw [hc] at hrd
  rw [List.take_of_length_le (by simp; omega)] at hrd
  exact ⟨a, F, hrd, by simp only [List.map_cons, Rows.uptoBulkAll]; omega⟩
theorem fits_cons {α β : Type} {f : Field} {fs : List Field} {S : Shape α} {T : Shape β} {m : α → Nat} {m' : β → Nat} (h : Fits f.type S m) (hc : Try.prog.cellsOf f.type = S.size) (ht : FitsFs fs (f.offset + S.size) T m') :
    FitsFs (f :: fs) f.offset (S.seq T) (fun a => m a.1 + m' a.2) := by
  intro H enc W n cs xs hm hl
  obtain ⟨y, ys, hy, hys, rfl⟩ := mapM_cons_some hm
  obtain ⟨d, ps⟩ := y
  obtain ⟨a, F, hrd, hle⟩ := h H enc W n _ d ps hy
  obtain ⟨b, G, hrd2, hle2⟩ := ht H enc W n cs ys hys (by rw [hl]; show f.offset + (S.size + T.size) = _; omega)
  rw [hc] at hrd
  refine ⟨(a, b), F ++ G, ⟨_, _, F, G, ?_, rfl, hrd, hrd2⟩, by simp only [List.map_cons, Rows.uptoBulkAll]; omega⟩
  rw [← List.drop_drop, List.take_append_drop]
theorem fits_struct {α : Type} {t : TypeId} {fs : Array Field} {S : Shape α} {m : α → Nat} (hu : Try.prog.underlying t = some (.struct fs)) (hc : Try.prog.cellsOf t = S.size) (h : FitsFs fs.toList 0 S m) : Fits t S m := by
  intro H enc W fuel cs d ps hd
  cases fuel with
  | zero => simp [DataW.trod] at hd
  | succ n =>
    unfold DataW.trod at hd
    rw [hu] at hd
    simp only at hd
    split at hd
    · rename_i hlen
      obtain ⟨xs, hxs, hd⟩ := Option.map_eq_some_iff.1 hd
      obtain ⟨a, F, hrd, hle⟩ := h H enc W n cs xs hxs (by omega)
      rw [List.drop_zero] at hrd
      have : d = .agg (xs.map (·.1)) := (Prod.mk.inj hd).1.symm
      subst this
      exact ⟨a, F, hrd, by simp only [Rows.uptoBulk]; omega⟩
    · cases hd
theorem Fits.conv {α β : Type} {t : TypeId} {S : Shape α} {T : Shape β} {m : α → Nat} {m' : β → Nat} (h : Fits t S m) (hc : ∀ W cs a F, S.rd W cs a F → ∃ b, T.rd W cs b F ∧ m' b ≤ m a) : Fits t T m' := by
  intro H enc W fuel cs d ps hd
  obtain ⟨a, F, hrd, hle⟩ := h H enc W fuel cs d ps hd
  obtain ⟨b, hb, hle2⟩ := hc W cs a F hrd
  exact ⟨b, F, hb, Nat.le_trans hle2 hle⟩

theorem slice_rows {α : Type} {e : TypeId} {S : Shape α} {m : α → Nat} (h : Fits e S m) (hc : Try.prog.cellsOf e = S.size) {H : Type} {enc : TypeId × Value → H} {W : World} {n : Nat} {a : Addr} :
    ∀ (k j : Nat) (xs : List (DataW H × List MemPlace)), (List.range' j k).mapM (fun i => (W.cells? 0 (a.add (i * Try.prog.cellsOf e)) (Try.prog.cellsOf e)).bind (DataW.trod enc Try.prog W 0 (fun _ => true) true n e)) = some xs →
    ∃ l cells G, l.length = k ∧ S.rows W l cells G ∧ (∀ q u, cells[q]? = some u → W.cell? (a.add (j * S.size + q)) = some u) ∧ (l.map m).sum ≤ Rows.uptoBulkAll (xs.map (·.1))
  | 0, j, xs, hx => by
    have := mapM_nil_some hx
    subst this
    exact ⟨[], [], [], rfl, ⟨rfl, rfl⟩, fun q u hq => by simp at hq, by simp⟩
  | k + 1, j, xs, hx => by
    rw [List.range'_succ] at hx
    obtain ⟨y, ys, hy, hys, rfl⟩ := mapM_cons_some hx
    obtain ⟨cs, hcs, hy⟩ := Option.bind_eq_some_iff.1 hy
    obtain ⟨d, ps⟩ := y
    obtain ⟨b, F, hrd, hle⟩ := h H enc W n cs d ps hy
    obtain ⟨l, cells, G, h1, h2, h3, h4⟩ := slice_rows h hc k (j + 1) ys hys
    obtain ⟨_, hcl, hcc⟩ := World.cells?_some hcs
    rw [hc] at hcl hcc
    refine ⟨b :: l, cs ++ cells, F ++ G, by simp [h1], ⟨cs, cells, F, G, rfl, rfl, hrd, h2⟩, ?_, by simp only [List.map_cons, List.sum_cons, Rows.uptoBulkAll]; omega⟩
    intro q u hq
    rw [List.getElem?_append] at hq
    split at hq
    · rename_i hlt
      have := hcc q (by omega)
      rw [add_add'] at this
      rw [this]; exact hq
    · rename_i hge
      have := h3 _ _ hq
      rw [show (j + 1) * S.size + (q - cs.length) = j * S.size + q by rw [Nat.add_mul]; omega] at this
      exact this
theorem fits_list {α : Type} {t e : TypeId} {S : Shape α} {m : α → Nat} (hu : Try.prog.underlying t = some (.slice e)) (hc : Try.prog.cellsOf e = S.size) (hS : 0 < S.size) (h : Fits e S m) : Fits t (S.list hS) (fun l => (l.map m).sum + 1) := by
  intro H enc W fuel cs d ps hd
  cases fuel with
  | zero => simp [DataW.trod] at hd
  | succ n =>
    unfold DataW.trod at hd
    rw [hu] at hd
    split at hd
    all_goals (try (simp at *; done))
    · simp only [Option.some.injEq, Prod.mk.injEq] at hd
      obtain ⟨rfl, _⟩ := hd
      exact ⟨[], [], ⟨.slice none 0 0, [], [], rfl, Nat.le_refl _, ⟨none, 0, rfl, by simp, fun _ => ⟨rfl, rfl⟩, fun a h => by cases h⟩, ⟨rfl, rfl⟩, rfl⟩, by simp [Rows.uptoBulk]⟩
    · rename_i e' a len cap e1
      cases e1
      simp only at hd
      split at hd
      · rename_i hb
        obtain ⟨xs, hxs, hd⟩ := Option.bind_eq_some_iff.1 hd
        rw [List.range_eq_range'] at hxs
        obtain ⟨l, cells, G, h1, h2, h3, h4⟩ := slice_rows h hc len 0 xs hxs
        obtain ⟨rest, hrest, hd⟩ := Option.map_eq_some_iff.1 hd
        have : d = .slice (xs.map (·.1)) (rest.map (·.1)) := (Prod.mk.inj hd).1.symm
        subst this
        refine ⟨l, _, ⟨.slice (some a) len cap, cells, G, rfl, hb.2.1, ⟨some a, cap, by rw [h1], by rw [rows_len S h2], (fun h => by cases h), fun a' ha' => ?_⟩, h2, rfl⟩, by simp only [Rows.uptoBulk]; omega⟩
        obtain rfl := Option.some.inj ha'
        intro q u hq
        have := h3 q u hq
        simpa using this
      · cases hd
end Go.Proofs.Ytmlaconjeplhpaa

set_option linter.unusedVariables false
set_option linter.unusedSimpArgs false
set_option maxRecDepth 20000
namespace Go.Proofs.Ytmlaconjeplhpaa
open Go Go.Vc Go.ChangeShapes Go.WideShapes Go.ChangeAt Go.RowKit

theorem fInt : Fits 3 sInt (fun _ => 1) := fits_int Try.underlying3
theorem fByte : Fits 5 sByte (fun _ => 1) := fits_byte Try.underlying5
theorem sum_ones {α : Type} (l : List α) : (l.map fun _ => 1).sum = l.length := by rw [List.map_const', List.sum_replicate_nat, Nat.mul_one]
theorem fInts : Fits 22 aInts (fun l => l.length) := by
  refine Fits.conv (fits_list Try.underlying22 (by kernel_rfl) (by decide) fInt) ?_
  intro W cs a F h
  exact ⟨a, h, by have := sum_ones a; omega⟩
theorem fBytes : Fits 24 aBytes (fun l => l.length) := by
  refine Fits.conv (fits_list Try.underlying24 (by kernel_rfl) (by decide) fByte) ?_
  intro W cs a F h
  exact ⟨a, h, by have := sum_ones a; omega⟩
theorem fOp : Fits 52 aOp (fun o => o.2.2.length) := by
  refine Fits.conv (fits_struct Try.underlying52 (by kernel_rfl) (fits_cons fInt (by kernel_rfl) (fits_cons fInt (by kernel_rfl) (fits_last fBytes (by kernel_rfl))))) ?_
  intro W cs a F h
  exact ⟨a, h, by omega⟩
theorem fOps : Fits 49 aOps (fun l => (l.map fun o => o.2.2.length).sum + 1) := fits_list Try.underlying49 (by kernel_rfl) (by decide) fOp
theorem fLists : Fits 23 aLists (fun l => (l.map fun p => p.length).sum + 1) := fits_list Try.underlying23 (by kernel_rfl) (by decide) fBytes
theorem mem_sum {α : Type} {f : α → Nat} : ∀ {l : List α} {a : α}, a ∈ l → f a ≤ (l.map f).sum
  | b :: l, a, h => by
    simp only [List.map_cons, List.sum_cons]
    rcases List.mem_cons.1 h with rfl | h
    · omega
    · have := mem_sum (f := f) h; omega
theorem ownK : ownKnob Try.prog.godebug = none := by kernel_rfl
theorem laid : laidOutB Try.prog = true := by kernel_rfl
theorem trodAll_below {H : Type} {enc : TypeId × Value → H} {W W' : World} (hb : Below W.heap.size W W') : ∀ (ts : List TypeId) (vs : List Value) (ds : List (DataW H)) (ps : List MemPlace), (∀ t ∈ ts, Try.prog.readableRec t = true ∧ t < Try.prog.types.size) →
    DataW.TrodAll enc Try.prog W 0 (fun _ => true) true ts vs ds ps → (∀ x ∈ ps, x.block < W.heap.size) → DataW.TrodAll enc Try.prog W' 0 (fun b => decide (b < W.heap.size)) true ts vs ds ps
  | [], [], [], ps, _, h, _ => h
  | [], [], _ :: _, ps, _, h, _ => h.elim
  | [], _ :: _, _, ps, _, h, _ => h.elim
  | _ :: _, [], _, ps, _, h, _ => h.elim
  | _ :: _, _ :: _, [], ps, _, h, _ => h.elim
  | t :: ts, v :: vs, d :: ds, ps, ht, h, hlt => by
    obtain ⟨p, q, h1, h2, rfl⟩ := h
    obtain ⟨ht1, ht2⟩ := ht t (by simp)
    exact ⟨p, q, Below.trod laid ht1 ht2 h1 hb (fun x hx => hlt x (by simp [hx])), trodAll_below hb ts vs ds q (fun t ht' => ht t (by simp [ht'])) h2 (fun x hx => hlt x (by simp [hx])), rfl⟩
/-- The closing condition of a law's row. -/
theorem row_post {H : Type} {enc : TypeId × Value → H} {s : ChangeSpec} {f : Func} {W W' : World} {args : Array Value} {ds gs : List (DataW H)} {before : List MemPlace}
    (hs : s.vars = []) (ht : ∀ t ∈ f.params.toList, Try.prog.readableRec t = true ∧ t < Try.prog.types.size) (hrt : f.resultTypes.toList = [4])
    (hW : DataW.Whole enc Try.prog f.params.toList s.vars false W args.toList ds gs before) (hfn : (s.fn H (ds ++ gs)) = { results := [.lit (.bool true)], args := ds }) (hF : Fr [] W W') :
    s.post enc Try.prog f false true false false W args (.bool true) W' := by
  have hW' := hW
  obtain ⟨p, q, hA, hV, rfl, hfz, hnd⟩ := hW
  rw [hs] at hV
  obtain ⟨rfl, rfl⟩ := trodVars_none hV
  have bel : Below W.heap.size W W' := hF.below (fun i hi => by simp at hi) (Nat.le_refl _)
  have hlt := hW'.lt
  refine ⟨ds, [], p ++ [], [], p, [], hW', ?_, ?_, ?_, bel.frame _, fun h => by cases h⟩
  · rw [hfn, hrt]
    have : f.resultTypes.size = 1 := by rw [← Array.length_toList, hrt]; rfl
    rw [this]
    exact trodAll_mk1 (shut_bool Try.underlying4 _)
  · rw [hfn]
    exact trodAll_below bel _ _ _ _ ht hA (fun x hx => hlt x (by simp [hx]))
  · rw [hfn, hs]; rfl
theorem one_of_cells {t e : TypeId} {W : World} {base : Nat} {v x : Value} (hc : v.cells.toList = [x]) (hv : Value.okWide Try.prog W .any base t v) (hu : Try.prog.underlying t = some (.slice e)) : v = x := by
  cases v <;> first | (simp [Value.okWide, hu] at hv; done) | (simp [Value.cells] at hc; exact hc) | (simp [Value.okWide, hu, Cell.okWide, Cell.ok] at hv; done)
/-- A list's reading stands in one cell. -/
theorem one_cell {α : Type} {S : Shape α} {hs : 0 < S.size} {W : World} {cs : List Value} {l : List α} {F : List Nat} (h : (S.list hs).rd W cs l F) : ∃ x, cs = [x] := by
  obtain ⟨v, cells, G, rfl, _⟩ := h
  exact ⟨v, rfl⟩
end Go.Proofs.Ytmlaconjeplhpaa

set_option linter.unusedVariables false
set_option linter.unusedSimpArgs false
set_option maxRecDepth 20000
namespace Go.Proofs.Ytmlaconjeplhpaa
open Go Go.Vc Go.ChangeShapes Go.WideShapes Go.ChangeAt Go.RowKit

theorem fKop : Fits 71 kOp (fun o => o.2.2.2.2.length) := by
  refine Fits.conv (fits_struct Try.underlying71 (by kernel_rfl) (fits_cons fInt (by kernel_rfl) (fits_cons fInt (by kernel_rfl) (fits_cons fInt (by kernel_rfl) (fits_cons fInt (by kernel_rfl) (fits_last fBytes (by kernel_rfl))))))) ?_
  intro W cs a F h
  exact ⟨a, h, by omega⟩
theorem fKops : Fits 56 kOps (fun l => (l.map fun o => o.2.2.2.2.length).sum + 1) := fits_list Try.underlying56 (by kernel_rfl) (by decide) fKop
end Go.Proofs.Ytmlaconjeplhpaa
