/- Contracts of the reference's functions that compare states: furlongref05.Same, furlongref10.SameState. -/
import Derived.Test.YtachignmofpngaaRefY
set_option linter.unusedVariables false
set_option linter.unusedSimpArgs false
set_option maxRecDepth 20000
set_option synthInstance.maxSize 1000
namespace Go.Proofs.Ytachignmofpngaa
open Go Go.Vc

section
variable {P : Program} {w : World} {b : Bool} {k : Value → Prop} {T : TypeId} {cx cy : Bool} {bx ox o bY oy o' : Nat} {Tx Ty : TypeId} {lx ly : List Value}
theorem or_int {κ : IntKind} {i j : Int} (hx : Bk w bx Tx lx) (h1 : lx[ox + o]? = some (.int κ i)) (hy : Bk w bY Ty ly) (h2 : ly[oy + o']? = some (.int κ j)) (hk : k (.bool (b || decide (i ≠ j)))) :
    GdP (isB (.bool b) false) (fun R => FAd o (.pointer (some ⟨bx, ox, none⟩)) R) fun t1 => GdP (isB (.bool b) false) (fun R => LdC (At w) t1 R) fun t2 =>
    GdP (isB (.bool b) false) (fun R => FAd o' (.pointer (some ⟨bY, oy, none⟩)) R) fun t3 => GdP (isB (.bool b) false) (fun R => LdC (At w) t3 R) fun t4 =>
    GdP (isB (.bool b) false) (fun R => Bin P (At w) .neq T cx cy t2 t4 R) fun t5 => Pick (.bool b) (.bool true) t5 k := by
  cases b with
  | false => exact gdT rfl (fad rfl) (gdT rfl (ldC_bk hx h1 rfl) (gdT rfl (fad rfl) (gdT rfl (ldC_bk hy h2 rfl) (gdT rfl (neq rfl) (pick_f rfl (by simpa using hk))))))
  | true => exact gdF rfl (gdF rfl (gdF rfl (gdF rfl (gdF rfl (pick_t rfl (by simpa using hk))))))
theorem or_len {A A' : Option Addr} {n n' c c' : Nat} (hx : Bk w bx Tx lx) (h1 : lx[ox + o]? = some (.slice A n c)) (hy : Bk w bY Ty ly) (h2 : ly[oy + o']? = some (.slice A' n' c')) (hk : k (.bool (b || decide (n ≠ n')))) :
    GdP (isB (.bool b) false) (fun R => FAd o (.pointer (some ⟨bx, ox, none⟩)) R) fun t1 => GdP (isB (.bool b) false) (fun R => LdC (At w) t1 R) fun t2 => GdP (isB (.bool b) false) (fun R => Len t2 R) fun t3 =>
    GdP (isB (.bool b) false) (fun R => FAd o' (.pointer (some ⟨bY, oy, none⟩)) R) fun t4 => GdP (isB (.bool b) false) (fun R => LdC (At w) t4 R) fun t5 => GdP (isB (.bool b) false) (fun R => Len t5 R) fun t6 =>
    GdP (isB (.bool b) false) (fun R => Bin P (At w) .neq T cx cy t3 t6 R) fun t7 => Pick (.bool b) (.bool true) t7 k := by
  have e : decide ((n : Int) ≠ n') = decide (n ≠ n') := decide_eq_decide.2 (by omega)
  cases b with
  | false => exact gdT rfl (fad rfl) (gdT rfl (ldC_bk hx h1 rfl) (gdT rfl (len rfl) (gdT rfl (fad rfl) (gdT rfl (ldC_bk hy h2 rfl) (gdT rfl (len rfl) (gdT rfl (neq rfl) (pick_f rfl (by rw [e]; simpa using hk))))))))
  | true => exact gdF rfl (gdF rfl (gdF rfl (gdF rfl (gdF rfl (gdF rfl (gdF rfl (pick_t rfl (by simpa using hk))))))))
end
/-- A row of whole numbers, as an element's cells. -/
theorem row_cells {n j : Nat} {w : World} {l : List (List Int)} {cells : List Value} {G : List Nat} (hr : (sInt.rep n).rows w l cells G) (hj : j < l.length) : ((cells.drop (j * n)).take n) = ints64 l[j] ∧ l[j].length = n := by
  obtain ⟨Gj, h, _⟩ := rows_get (sInt.rep n) hr j hj
  obtain ⟨h1, h2, _, _⟩ := of_rep h
  have hs : (sInt.rep n).size = n := Nat.mul_one n
  rw [hs] at h2
  exact ⟨h2, h1⟩
/-- Two elements, made of whole numbers alone, are compared. -/
theorem ne_rows {n j : Nat} {t : TypeId} {w wr : World} {x y : Value} {a b : List (List Int)} {cx cy : List Value} {Gx Gy : List Nat} {S : World → Prop} {k : Value → Prop} (hf : flat Try.prog 10000 t = some n) (ha : isAggT Try.prog t = true) (hg : Try.prog.eqGuardType Try.prog.depth t = false)
    (hx : ∀ w', S w' → Sl w' n x a.length cx) (hx0 : Sl w n x a.length cx) (hy : ∀ w', S w' → Sl w' n y b.length cy) (hy0 : Sl w n y b.length cy) (hrx : (sInt.rep n).rows wr a cx Gx) (hry : (sInt.rep n).rows wr b cy Gy) (hja : j < a.length) (hjb : j < b.length)
    (hk : k (.bool (decide (a[j] ≠ b[j])))) :
    IAdS n x (.int .i64 j) fun t1 => LdA S n t1 fun t2 => IAdS n y (.int .i64 j) fun t3 => LdA S n t3 fun t4 => Bin Try.prog S .neq t false false t2 t4 k := by
  obtain ⟨e1, n1⟩ := row_cells hrx hja
  obtain ⟨e2, n2⟩ := row_cells hry hjb
  refine ixNS hx hx0 hja ?_
  refine ixNS hy hy0 hjb ?_
  rw [e1, e2]
  exact ne_ints hf ha hg n1 n2 hk
theorem sameQ_c {w : World} {x y : Value} {a b : List (List Int)} {F F' : List Nat} (hr : ((sInt.rep 7).list (by decide)).rd w [x] a F) (hr' : ((sInt.rep 7).list (by decide)).rd w [y] b F') (hl : a.length ≤ 1000000000000) :
    CallF Try.prog 60 #[x, y] w fun r w' => r = .bool (decide (a = b)) ∧ Fr [] w w' := by
  obtain ⟨cx, Gx, hx, hrx, _⟩ := list_open hr
  obtain ⟨cy, Gy, hy, hry, _⟩ := list_open hr'
  refine C_furlongref05_Same_link ?_
  unfold C_furlongref05_Same
  refine hx.lenV (hy.lenV (neq (if_p (fun h => ?_) (fun h => ?_))))
  · refine ⟨?_, Fr.refl _ _⟩
    congr 1; symm; rw [decide_eq_false_iff_not]; intro e; exact h (by rw [e])
  have hlen : a.length = b.length := by omega
  refine hx.lenV ?_
  refine ⟨fun m t i w' => ∃ j : Nat, j + m = a.length ∧ i = .int .i64 j ∧ a.take j = b.take j ∧ Fr [] w w', a.length, ⟨0, by omega, rfl, by simp, Fr.refl _ _⟩, ?_⟩
  rintro m t i w1 ⟨j, hj, rfl, he, hf⟩
  refine lss (if_p (fun hlt => ?_) (fun hge => ?_))
  · have hja : j < a.length := by omega
    have hjb : j < b.length := by omega
    have hfd := hf.t (Fr.drew [] w1)
    have hxd : Sl (World.drew w1) 7 x a.length cx := hx.fr1 hfd (fun _ i _ => by simp)
    have hyd : Sl (World.drew w1) 7 y b.length cy := hy.fr1 hfd (fun _ i _ => by simp)
    refine ⟨fun w' => Sl w' 7 x a.length cx ∧ Sl w' 7 y b.length cy, ⟨hxd, hyd⟩, ?_⟩
    refine ne_rows (by kernel_rfl) (by kernel_rfl) (by kernel_rfl) (fun w' h => h.1) hxd (fun w' h => h.2) hyd hrx hry hja hjb ?_
    refine if_p (fun h => ?_) (fun h => ?_)
    · refine ⟨?_, hfd⟩
      congr 1; symm; rw [decide_eq_false_iff_not]; intro e; subst e; exact h rfl
    · have heq : a[j] = b[j] := Decidable.byContradiction h
      refine add64 (by omega) ⟨m - 1, by omega, j + 1, by omega, by congr 1, ?_, hfd⟩
      rw [List.take_succ_eq_append_getElem hja, List.take_succ_eq_append_getElem hjb, he, heq]
  · refine ⟨?_, hf⟩
    rw [List.take_of_length_le (by omega), List.take_of_length_le (by omega)] at he
    congr 1; symm; rw [decide_eq_true_iff]; exact he
end Go.Proofs.Ytachignmofpngaa
