/- Contracts of the reference's functions that compare leases and queues: furlongref10.SameLease, SameLeases, furlongref05.Same. -/
import Derived.Test.YtachignmofpngaaRefX
set_option linter.unusedVariables false
set_option linter.unusedSimpArgs false
set_option maxRecDepth 20000
set_option synthInstance.maxSize 1000
namespace Go.Proofs.Ytachignmofpngaa
open Go Go.Vc

theorem and_bool {P : Program} {w : World} {b : Bool} {k : Value → Prop} {T : TypeId} {cx cy : Bool} {bx ox o bY oy o' : Nat} {Tx Ty : TypeId} {lx ly : List Value} {i j : Bool} (hT : P.underlying T = some .bool) (hx : Bk w bx Tx lx) (h1 : lx[ox + o]? = some (.bool i)) (hy : Bk w bY Ty ly) (h2 : ly[oy + o']? = some (.bool j)) (hk : k (.bool (b && decide (i = j)))) :
    GdP (isB (.bool b) true) (fun R => FAd o (.pointer (some ⟨bx, ox, none⟩)) R) fun t1 => GdP (isB (.bool b) true) (fun R => LdC (At w) t1 R) fun t2 =>
    GdP (isB (.bool b) true) (fun R => FAd o' (.pointer (some ⟨bY, oy, none⟩)) R) fun t3 => GdP (isB (.bool b) true) (fun R => LdC (At w) t3 R) fun t4 =>
    GdP (isB (.bool b) true) (fun R => Bin P (At w) .eql T cx cy t2 t4 R) fun t5 => Pick (.bool b) t5 (.bool false) k := by
  have e : (i == j) = decide (i = j) := by cases i <;> cases j <;> rfl
  cases b with
  | true => exact gdT rfl (fad rfl) (gdT rfl (ldC_bk hx h1 rfl) (gdT rfl (fad rfl) (gdT rfl (ldC_bk hy h2 rfl) (gdT rfl (eq_bool hT rfl) (pick_t rfl (by rw [e]; simpa using hk))))))
  | false => exact gdF rfl (gdF rfl (gdF rfl (gdF rfl (gdF rfl (pick_f rfl (by simpa using hk))))))
theorem of_lease_rd {w : World} {cs : List Value} {a : DLease} {F : List Nat} (hr : sLease.rd w cs a F) : ∃ a0 a1 a2 l A c b0 b1 b2 st, a = ([a0, a1, a2], l, [b0, b1, b2], st) ∧ cs = [.int .i64 a0, .int .i64 a1, .int .i64 a2, .slice A l.length c, .int .i64 b0, .int .i64 b1, .int .i64 b2, .bool st] ∧ Sl w 1 (.slice A l.length c) l.length (ints l) := by
  obtain ⟨c1, c2, F1, F2, rfl, rfl, h1, c3, c4, F3, F4, rfl, rfl, h2, c5, c6, F5, F6, rfl, rfl, h3, rfl, rfl⟩ := hr
  obtain ⟨l1, l2, l3, st⟩ := a
  obtain ⟨hl1, rfl, rfl, hI1⟩ := of_rep h1
  obtain ⟨hl3, rfl, rfl, hI3⟩ := of_rep h3
  obtain ⟨A, c, rfl⟩ := list_one _ h2
  simp only at hl1 hl3 h2
  obtain ⟨v, cells, G, e, hcap, hsl, hrows, rfl⟩ := h2
  obtain rfl := (List.cons.inj e).1
  obtain ⟨rfl, rfl, hI⟩ := rows_ints.1 hrows
  match l1, hl1, l3, hl3 with
  | [a0, a1, a2], _, [b0, b1, b2], _ => exact ⟨a0, a1, a2, l2, A, c, b0, b1, b2, st, rfl, rfl, hsl⟩
theorem sameLease_c {w : World} {cs cs' : List Value} {a a' : DLease} {F F' : List Nat} (hr : sLease.rd w cs a F) (hr' : sLease.rd w cs' a' F') (hb : a.2.1.length ≤ 1000000000000) :
    CallF Try.prog 86 #[.agg cs.toArray, .agg cs'.toArray] w fun r w' => r = .bool (decide (a = a')) ∧ Fr [] w w' := by
  obtain ⟨a0, a1, a2, l, A, c, b0, b1, b2, st, rfl, rfl, hx⟩ := of_lease_rd hr
  obtain ⟨a0', a1', a2', l', A', c', b0', b1', b2', st', rfl, rfl, hy⟩ := of_lease_rd hr'
  refine C_furlongref10_SameLease_link ?_
  unfold C_furlongref10_SameLease
  refine box' rfl ?_
  intro p1 w1 hb1 hB1 hF1 hs1
  refine box' rfl ?_
  intro p2 w2 hb2 hB2 hF2 hs2
  have hB1' := hB1.fr hF2 (by simp)
  refine fad (ldC_bk hB1' rfl (fad (ldC_bk hB2 rfl (eql ?_))))
  refine and_int hB1' rfl hB2 rfl ?_
  refine and_int hB1' rfl hB2 rfl ?_
  refine and_int hB1' rfl hB2 rfl ?_
  refine and_int hB1' rfl hB2 rfl ?_
  refine and_int hB1' rfl hB2 rfl ?_
  refine and_bool Try.underlying4 hB1' rfl hB2 rfl ?_
  have hF : Fr [] w w2 := hF1.t hF2
  generalize hq : (decide (a0 = a0') && decide (a1 = a1') && decide (a2 = a2') && decide (b0 = b0') && decide (b1 = b1') && decide (b2 = b2') && decide (st = st')) = q
  have e : decide (([a0, a1, a2], l, [b0, b1, b2], st) = ([a0', a1', a2'], l', [b0', b1', b2'], st')) = (q && decide (l = l')) := by
    rw [← hq, Bool.eq_iff_iff]
    simp only [Prod.mk.injEq, List.cons.injEq, Bool.and_eq_true, decide_eq_true_eq]
    constructor
    · rintro ⟨⟨h1, h2, h3, _⟩, h4, ⟨h5, h6, h7, _⟩, h8⟩; exact ⟨⟨⟨⟨⟨⟨⟨h1, h2⟩, h3⟩, h5⟩, h6⟩, h7⟩, h8⟩, h4⟩
    · rintro ⟨⟨⟨⟨⟨⟨⟨h1, h2⟩, h3⟩, h5⟩, h6⟩, h7⟩, h8⟩, h4⟩; exact ⟨⟨h1, h2, h3, trivial⟩, h4, ⟨h5, h6, h7, trivial⟩, h8⟩
  rw [e]
  cases q with
  | true =>
    refine gdT rfl (fad rfl) (gdT rfl (ldC_bk hB1' rfl rfl) (gdT rfl (fad rfl) (gdT rfl (ldC_bk hB2 rfl rfl) (gT rfl ((ints_c (hx.fr1 hF (fun _ i _ => by simp)) (hy.fr1 hF (fun _ i _ => by simp)) hb).use ?_)))))
    rintro _ w3 ⟨rfl, hF3⟩
    exact pick_t rfl ⟨by simp, hF.t hF3⟩
  | false =>
    exact gdF rfl (gdF rfl (gdF rfl (gdF rfl (gF rfl (pick_f rfl ⟨by simp, hF⟩)))))
/-- An element of a slice, loaded in a region that draws its order. -/
theorem ixNS {w : World} {size n i : Nat} {κ : IntKind} {v : Value} {cells : List Value} {S : World → Prop} {k : Value → Prop} (hs : ∀ w', S w' → Sl w' size v n cells) (h0 : Sl w size v n cells) (hi : i < n) (h : k (.agg ((cells.drop (i * size)).take size).toArray)) :
    IAdS size v (.int κ i) fun t => LdA S size t k := by
  have hl : ((cells.drop (i * size)).take size).length = size := by
    obtain ⟨A, c, rfl, hl, hn, hc⟩ := h0
    have : (i + 1) * size ≤ n * size := Nat.mul_le_mul_right _ (by omega)
    rw [Nat.add_mul] at this
    simp; omega
  refine ixA h0 hi fun a ha _ _ => ⟨_, hl, fun w' e j u hj => ?_, h⟩
  obtain ⟨A, c, rfl, hll, hn, hc⟩ := hs w' e
  cases A with
  | none => have := (hn rfl).1; omega
  | some b =>
    rw [ha b c rfl, add_add']
    rw [List.getElem?_take] at hj
    split at hj
    · rw [List.getElem?_drop] at hj; exact hc b rfl _ u hj
    · cases hj
theorem sameLeases_c {w : World} {x y : Value} {a b : List DLease} {F F' : List Nat} (hr : (sLease.list (by decide)).rd w [x] a F) (hr' : (sLease.list (by decide)).rd w [y] b F') (hb : ∀ x ∈ a, x.2.1.length ≤ 1000000000000) (hl : a.length ≤ 1000000000000) :
    CallF Try.prog 56 #[x, y] w fun r w' => r = .bool (decide (a = b)) ∧ Fr [] w w' := by
  obtain ⟨cx, Gx, hx, hrx, _⟩ := list_open hr
  obtain ⟨cy, Gy, hy, hry, _⟩ := list_open hr'
  refine C_furlongref10_SameLeases_link ?_
  unfold C_furlongref10_SameLeases
  refine hx.lenV (hy.lenV (neq (if_p (fun h => ?_) (fun h => ?_))))
  · refine ⟨?_, Fr.refl _ _⟩
    congr 1; symm; rw [decide_eq_false_iff_not]; intro e; exact h (by rw [e])
  have hlen : a.length = b.length := by omega
  refine hx.lenV ?_
  refine ⟨fun m t i w' => ∃ j : Nat, j + m = a.length ∧ i = .int .i64 j ∧ a.take j = b.take j ∧ Fr [] w w', a.length, ⟨0, by omega, rfl, by simp, Fr.refl _ _⟩, ?_⟩
  rintro m t i w1 ⟨j, hj, rfl, he, hf⟩
  refine lss (if_p (fun hlt => ?_) (fun hge => ?_))
  · have hja : j < a.length := by omega
    have hjb : j < b.length := by omega
    have hfd := hf.t (Fr.drew [] w1)
    have hxd : Sl (World.drew w1) 8 x a.length cx := hx.fr1 hfd (fun _ i _ => by simp)
    have hyd : Sl (World.drew w1) 8 y b.length cy := hy.fr1 hfd (fun _ i _ => by simp)
    refine ⟨fun w' => Sl w' 8 x a.length cx ∧ Sl w' 8 y b.length cy, ⟨hxd, hyd⟩, ?_⟩
    refine ixNS (fun w' h => h.1) hxd hja ?_
    refine ixNS (fun w' h => h.2) hyd hjb ?_
    obtain ⟨Ga, hGa, _⟩ := rows_get sLease (rows_fr sLease hfd hrx (fun i _ => by simp)) j hja
    obtain ⟨Gb, hGb, _⟩ := rows_get sLease (rows_fr sLease hfd hry (fun i _ => by simp)) j hjb
    refine (sameLease_c hGa hGb (hb _ (List.getElem_mem hja))).use ?_
    rintro _ w3 ⟨rfl, hF3⟩
    refine ⟨⟨hxd.fr1 hF3 (fun _ i _ => by simp), hyd.fr1 hF3 (fun _ i _ => by simp)⟩, notB (if_b (fun h => ?_) (fun h => ?_))⟩
    · refine ⟨?_, hfd.t hF3⟩
      have hne : a[j] ≠ b[j] := by simpa using h
      congr 1; symm; rw [decide_eq_false_iff_not]; intro e; subst e; exact hne rfl
    · have heq : a[j] = b[j] := by simpa using h
      refine add64 (by omega) ⟨m - 1, by omega, j + 1, by omega, by congr 1, ?_, hfd.t hF3⟩
      rw [List.take_succ_eq_append_getElem hja, List.take_succ_eq_append_getElem hjb, he, heq]
  · refine ⟨?_, hf⟩
    rw [List.take_of_length_le (by omega), List.take_of_length_le (by omega)] at he
    congr 1; symm; rw [decide_eq_true_iff]; exact he
end Go.Proofs.Ytachignmofpngaa
