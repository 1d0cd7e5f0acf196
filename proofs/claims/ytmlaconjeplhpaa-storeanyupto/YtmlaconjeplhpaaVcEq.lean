/- Comparing structs of whole numbers, texts, and bytes made into texts. -/
import Derived.Test.YtmlaconjeplhpaaShape
import Derived.Laws.StructEq
import Derived.Laws.IdiomStrings
import Derived.Laws.BytesArg
set_option linter.unusedVariables false
set_option linter.unusedSimpArgs false
namespace Go.Vc
open Go

/-! ### Structs of whole numbers -/
def flatFs (P : Program) (f : TypeId → Option Nat) : List Field → Nat → Option Nat
  | [], o => some o
  | x :: r, o =>
    bif (x.name == "_") || !(Nat.beq x.offset o) then none else
    match f x.type with
    | some n => bif (match sizeT P x.type with | some m => Nat.beq m n | none => false) && (P.underlying x.type).isSome then flatFs P f r (o + n) else none
    | none => none
/-- How many whole numbers a type is made of, if it is made of nothing else. -/
def flat (P : Program) : Nat → TypeId → Option Nat
  | 0, _ => none
  | d + 1, t =>
    match P.underlying t with
    | some (.int _) => some 1
    | some (.struct fs) => bif P.stoodInHeld t then none else flatFs P (flat P d) fs.toList 0
    | _ => none
def ints64 (l : List Int) : List Value := l.map (Value.int .i64)
def IsV (P : Program) (t : TypeId) (x : Value) (l : List Int) : Prop := (isAggT P t = true ∧ x = .agg (ints64 l).toArray) ∨ (isAggT P t = false ∧ ∃ a, l = [a] ∧ x = .int .i64 a)
theorem part_of {P : Program} {t : TypeId} {n off : Nat} {l : List Int} {w : World} (hs : sizeT P t = some n) (hu : (P.underlying t).isSome = true) (hn : isAggT P t = false → n = 1) (hl : off + n ≤ l.length) :
    ∃ x, (part t (ints64 l).toArray off).run P w = .ok x w ∧ IsV P t x ((l.drop off).take n) := by
  obtain ⟨d, hd⟩ := Option.isSome_iff_exists.1 hu
  cases ha : isAggT P t with
  | true =>
    refine ⟨.agg ((ints64 l).toArray.extract off (off + n)), ?_, .inl ⟨ha, ?_⟩⟩
    · simp [part, run_isAgg t hd, ha, run_sizeOf t hs]
    · congr 1
      apply Array.ext'
      simp [ints64, List.map_take, List.map_drop, List.take_drop]
  | false =>
    have h1 := hn ha
    subst h1
    have ho : off < l.length := by omega
    have e : (ints64 l).toArray[off]? = some (.int .i64 l[off]) := by simp [ints64, ho]
    refine ⟨.int .i64 l[off], ?_, .inr ⟨ha, l[off], ?_, rfl⟩⟩
    · simp only [part, Sem.run_bind, run_isAgg t hd, ha, Result.andThen_ok, Bool.false_eq_true, if_false]
      rw [e]; simp
    · rw [List.drop_eq_getElem_cons ho]; rfl
theorem flat_one {P : Program} {d : Nat} {t : TypeId} {n : Nat} (h : flat P d t = some n) (ha : isAggT P t = false) : n = 1 := by
  cases d with
  | zero => simp [flat] at h
  | succ d =>
    unfold flat at h
    split at h
    · exact (Option.some.inj h).symm
    · rename_i fs hu; simp [isAggT, hu] at ha
    · cases h
theorem flat_eq {P : Program} {w : World} : ∀ (d : Nat) (t : TypeId) (n : Nat), flat P d t = some n → ∀ (x y : Value) (l l' : List Int), l.length = n → l'.length = n → IsV P t x l → IsV P t y l' → (Op.equalIn d t x y).run P w = .ok (decide (l = l')) w
  | 0, t, n, h => by simp [flat] at h
  | d + 1, t, n, h => by
    intro x y l l' hl hl' hx hy
    unfold flat at h
    split at h
    · rename_i κ hu
      have ha : isAggT P t = false := by simp [isAggT, hu]
      rcases hx with ⟨hx, _⟩ | ⟨_, a, rfl, rfl⟩
      · rw [hx] at ha; cases ha
      rcases hy with ⟨hy, _⟩ | ⟨_, b, rfl, rfl⟩
      · rw [hy] at ha; cases ha
      rw [run_equalIn_int w d t .i64 κ a b hu]
      congr 1
      simp only [List.cons.injEq, and_true]
      rfl
    · rename_i fs hu
      have ha : isAggT P t = true := by simp [isAggT, hu]
      cases hst : P.stoodInHeld t with
      | true => rw [hst] at h; cases h
      | false =>
        rw [hst] at h
        simp only [cond_false] at h
        rcases hx with ⟨_, rfl⟩ | ⟨hx, _⟩
        case inr => rw [hx] at ha; cases ha
        rcases hy with ⟨_, rfl⟩ | ⟨hy, _⟩
        case inr => rw [hy] at ha; cases ha
        have hf : P.fieldsOf t = fs := by simp [Program.fieldsOf, hu]
        rw [run_equalIn_struct (P := P) w d t _ _ (by rw [hf]; exact hu) hst, hf]
        have key : ∀ (fl : List Field) (o : Nat), flatFs P (flat P d) fl o = some n → o ≤ n → (Op.eqFields d (ints64 l).toArray (ints64 l').toArray fl).run P w = .ok (decide (l.drop o = l'.drop o)) w := by
          intro fl
          induction fl with
          | nil =>
            intro o ho hon
            simp only [flatFs, Option.some.injEq] at ho
            subst ho
            rw [List.drop_eq_nil_of_le (by omega), List.drop_eq_nil_of_le (by omega)]
            simp [Op.eqFields]
          | cons f fl ih =>
            intro o ho hon
            simp only [flatFs] at ho
            cases hc : (f.name == "_") || !(Nat.beq f.offset o) with
            | true => rw [hc] at ho; cases ho
            | false =>
              rw [hc] at ho
              simp only [cond_false] at ho
              rw [Bool.or_eq_false_iff] at hc
              have hname : f.name ≠ "_" := by simpa using hc.1
              have hoff : f.offset = o := by simpa using hc.2
              split at ho
              · rename_i m hm
                cases hc2 : (match sizeT P f.type with | some m' => Nat.beq m' m | none => false) && (P.underlying f.type).isSome with
                | false => rw [hc2] at ho; cases ho
                | true =>
                  rw [hc2] at ho
                  simp only [cond_true] at ho
                  rw [Bool.and_eq_true] at hc2
                  have hsz : sizeT P f.type = some m := by
                    have := hc2.1
                    split at this
                    · rename_i m' hm'; rw [hm']; congr 1; simpa using this
                    · cases this
                  have hmn : o + m ≤ n := by
                    clear ih hm hc2 hsz
                    revert ho
                    generalize o + m = q
                    clear hl hl' hon hoff hname hc
                    intro ho
                    have : ∀ (fl : List Field) (q : Nat), flatFs P (flat P d) fl q = some n → q ≤ n := by
                      intro fl
                      induction fl with
                      | nil => intro q h; simp [flatFs] at h; omega
                      | cons g fl ih =>
                        intro q h
                        simp only [flatFs] at h
                        cases h1 : (g.name == "_") || !(Nat.beq g.offset q) with
                        | true => rw [h1] at h; cases h
                        | false =>
                          rw [h1] at h
                          simp only [cond_false] at h
                          split at h
                          · rename_i k hk
                            cases h2 : (match sizeT P g.type with | some m' => Nat.beq m' k | none => false) && (P.underlying g.type).isSome with
                            | false => rw [h2] at h; cases h
                            | true => rw [h2] at h; simp only [cond_true] at h; have := ih _ h; omega
                          · cases h
                    exact this fl q ho
                  obtain ⟨u, hu1, hu2⟩ := part_of (w := w) (l := l) (off := o) hsz hc2.2 (flat_one hm) (by omega)
                  obtain ⟨v, hv1, hv2⟩ := part_of (w := w) (l := l') (off := o) hsz hc2.2 (flat_one hm) (by omega)
                  have he := flat_eq (w := w) d f.type m hm u v _ _ (by simp; omega) (by simp; omega) hu2 hv2
                  have hi := ih (o + m) ho hmn
                  simp only [Op.eqFields, if_pos hname, hoff, Sem.run_bind, hu1, hv1, he, Result.andThen_ok]
                  have e1 : l.drop o = (l.drop o).take m ++ l.drop (o + m) := by rw [← List.drop_drop, List.take_append_drop]
                  have e2 : l'.drop o = (l'.drop o).take m ++ l'.drop (o + m) := by rw [← List.drop_drop, List.take_append_drop]
                  have lt1 : ((l.drop o).take m).length = ((l'.drop o).take m).length := by simp; omega
                  by_cases hq : (l.drop o).take m = (l'.drop o).take m
                  · simp only [hq, decide_true, Bool.not_true, Bool.false_eq_true, if_false, hi]
                    congr 1
                    rw [decide_eq_decide, e1, e2, hq]
                    simp [List.drop_append, List.drop_drop]
                  · simp only [hq, decide_false, Bool.not_false, if_true, Sem.run_pure]
                    congr 1
                    symm
                    rw [decide_eq_false_iff_not]
                    intro e
                    exact hq (by rw [e])
              · cases ho
        have := key fs.toList 0 h (Nat.zero_le _)
        simpa using this
    · cases h
/-- '==' of two structs of whole numbers. -/
theorem eq_ints {P : Program} {S : World → Prop} {t : TypeId} {cx cy : Bool} {n : Nat} {l l' : List Int} {k : Value → Prop} (hf : flat P 10000 t = some n) (ha : isAggT P t = true) (hg : P.eqGuardType P.depth t = false) (hl : l.length = n) (hl' : l'.length = n)
    (h : k (.bool (decide (l = l')))) : Bin P S .eql t cx cy (.agg (ints64 l).toArray) (.agg (ints64 l').toArray) k := by
  refine ⟨_, fun w hw => ?_, h⟩
  have h1 := run_eqGuard_agg (P := P) w .eql t (bif cx then .const undef else .tmp 0) (bif cy then .const undef else .tmp 0) (ints64 l).toArray (ints64 l').toArray hg
  have h2 := run_eql_struct (P := P) w t (ints64 l).toArray (ints64 l').toArray
  have h3 := flat_eq (w := w) 10000 t n hf _ _ l l' hl hl' (.inl ⟨ha, rfl⟩) (.inl ⟨ha, rfl⟩)
  unfold binSem
  simp only [Sem.run_bind, h1, Result.andThen_ok, h2, h3]
theorem ne_ints {P : Program} {S : World → Prop} {t : TypeId} {cx cy : Bool} {n : Nat} {l l' : List Int} {k : Value → Prop} (hf : flat P 10000 t = some n) (ha : isAggT P t = true) (hg : P.eqGuardType P.depth t = false) (hl : l.length = n) (hl' : l'.length = n)
    (h : k (.bool (decide (l ≠ l')))) : Bin P S .neq t cx cy (.agg (ints64 l).toArray) (.agg (ints64 l').toArray) k := by
  refine ⟨_, fun w hw => ?_, h⟩
  have h1 := run_eqGuard_agg (P := P) w .neq t (bif cx then .const undef else .tmp 0) (bif cy then .const undef else .tmp 0) (ints64 l).toArray (ints64 l').toArray hg
  have h2 := run_neq_struct (P := P) w t (ints64 l).toArray (ints64 l').toArray
  have h3 := flat_eq (w := w) 10000 t n hf _ _ l l' hl hl' (.inl ⟨ha, rfl⟩) (.inl ⟨ha, rfl⟩)
  unfold binSem
  simp only [Sem.run_bind, h1, Result.andThen_ok, h2, h3]
  congr 2
  by_cases e : l = l' <;> simp [e]

/-! ### Bytes made into texts -/
def strOf (bs : List Nat) : ByteArray := ⟨(bs.map UInt8.ofNat).toArray⟩
theorem do_bytes_string {P : Program} {w : World} {src dst e : TypeId} {v : Value} {bs : List Nat} {k : Value → World → Prop} (hs : P.underlying src = some (.slice e)) (he : P.underlying e = some (.int .u8)) (hd : P.underlying dst = some .string)
    (hv : Sl w 1 v bs.length (bs.map fun n : Nat => .int .u8 (n : Int))) (hb : ∀ b ∈ bs, b < 256) (h : k (.string (strOf bs)) w) : Do P (convert src dst v) w k := by
  obtain ⟨A, c, rfl, hl, hn, hc⟩ := hv
  cases A with
  | none =>
    have h0 := (hn rfl).1
    have : bs = [] := List.eq_nil_of_length_eq_zero h0
    subst this
    exact ⟨_, _, run_convert_bytes_nil w src e hs he _ _ dst hd, h⟩
  | some a =>
    have := run_convert_bytes_back (P := P) w src dst e a c (bs.map UInt8.ofNat) hs he hd (fun j hj => by
      have hj' : j < bs.length := by simpa using hj
      have h1 := hc a rfl j (.int .u8 (bs[j] : Int)) (by simp [hj'])
      rw [h1]
      have h2 := hb _ (List.getElem_mem hj')
      simp only [List.getElem_map, UInt8.toNat_ofNat', Nat.reducePow]
      rw [Nat.mod_eq_of_lt h2])
    rw [List.length_map] at this
    exact ⟨_, _, this, h⟩
theorem strOf_inj {bs bs' : List Nat} (hb : ∀ b ∈ bs, b < 256) (hb' : ∀ b ∈ bs', b < 256) : strOf bs = strOf bs' ↔ bs = bs' := by
  constructor
  · intro h
    unfold strOf at h
    have h1 : bs.map UInt8.ofNat = bs'.map UInt8.ofNat := by
      have := congrArg (fun s : ByteArray => s.data.toList) h
      simpa using this
    have h2 := congrArg (List.map UInt8.toNat) h1
    simp only [List.map_map] at h2
    have e : ∀ l : List Nat, (∀ b ∈ l, b < 256) → l.map (UInt8.toNat ∘ UInt8.ofNat) = l := by
      intro l hl
      conv => rhs; rw [← List.map_id l]
      apply List.map_congr_left
      intro b hb
      have := hl b hb
      simp only [Function.comp, UInt8.toNat_ofNat', Nat.reducePow, id]
      exact Nat.mod_eq_of_lt this
    rw [e bs hb, e bs' hb'] at h2
    exact h2
  · rintro rfl; rfl
theorem eq_str {P : Program} {S : World → Prop} {t : TypeId} {cx cy : Bool} {a b : ByteArray} {k : Value → Prop} (h : k (.bool (decide (a = b)))) : Bin P S .eql t cx cy (.string a) (.string b) k := by
  refine ⟨_, fun w hw => ?_, h⟩
  have e : (a.toList == b.toList) = decide (a = b) := by
    by_cases h : a = b
    · subst h; simp
    · have : a.toList ≠ b.toList := fun e => h (by
        rw [ByteArray.toList_eq, ByteArray.toList_eq] at e
        cases a with | mk x => cases b with | mk y => exact congrArg ByteArray.mk (Array.ext' e))
      simp [h, this]
  simp [binSem, eqGuard, binOp, Op.stringOp, e]
theorem eq_bool {P : Program} {S : World → Prop} {t : TypeId} {cx cy : Bool} {a b : Bool} {k : Value → Prop} (hu : P.underlying t = some .bool) (h : k (.bool (a == b))) : Bin P S .eql t cx cy (.bool a) (.bool b) k := by
  refine ⟨_, fun w hw => ?_, h⟩
  have := run_equal_bool (P := P) w t a b hu
  simp [binSem, eqGuard, binOp, this]
end Go.Vc
