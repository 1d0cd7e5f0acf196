/- The desk of layer 16: its method change. The desk of layer 16: its method crash. The desk of layer 16: its method do. Layer 16: awake, begin. The law KeepHolds, for arguments that stand in memory. -/
import Derived.Test.YtmlaconjeplhpaaMI
set_option linter.unusedVariables false
set_option linter.unusedSimpArgs false
set_option maxRecDepth 20000
namespace Go.Proofs.Ytmlaconjeplhpaa
open Go Go.Vc

theorem infoM : (Try.prog.info? 67).map (fun i => (i.zero, i.size, i.bytes)) = some (some (.agg #[.int .i64 0, .int .i64 0, .int .i64 0, .int .i64 0, .slice none 0 0, .slice none 0 0]), 6, 80) := by kernel_rfl
abbrev sKds : Shape (List KD) := sKd.list (by decide)
def dCells (pd pk : Nat) (lsv : Value) : List Value := [ptr pd, ptr pk, lsv]
/-- A list of documents' keeps: one more. -/
theorem kds_snoc {w0 w : World} {v : Value} {L : List KD} {cells cs : List Value} {G Fm : List Nat} {k : KD} (hN : New w0 w 67 6 v (0 + L.length + 1) ([] ++ cells ++ cs)) (hr : sKd.rows w L cells G) (hm : sKd.rd w cs k Fm) :
    sKds.rd w [v] (L ++ [k]) (fp v ++ (G ++ Fm)) := by
  have hl : (L ++ [k]).length = 0 + L.length + 1 := by rw [List.length_append]; simp
  refine ⟨v, [] ++ cells ++ cs, G ++ Fm, rfl, hN.own.cap, ?_, ?_, ?_⟩
  · rw [hl]; exact hN.own.sl
  · rw [List.nil_append]; exact rows_snoc sKd hm hr
  · rw [if_neg (by simp)]
/-- The last of a list, alone. -/
theorem kds_last {w : World} {v v' : Value} {L : List KD} {cells : List Value} {G F : List Nat} (hcap : capOk v') (hr : sKd.rows w L cells G) (h0 : 0 < L.length) (hs : Sl w 6 v' (L.length - (L.length - 1)) (cells.drop ((L.length - 1) * 6))) (hf : ∀ i ∈ fp v', i ∈ fp v) (hF : F = (if L = [] then [] else fp v) ++ G) :
    ∃ F', sKds.rd w [v'] [lastL L] F' ∧ ∀ i ∈ F', i ∈ F := by
  obtain ⟨G', hr', hG'⟩ := rows_drop (L.length - 1) hr
  have hd : L.drop (L.length - 1) = [lastL L] := by
    rw [List.drop_eq_getElem_cons (by omega), List.drop_eq_nil_of_le (by omega)]
    unfold lastL
    rw [List.getLast?_eq_getElem?, List.getElem?_eq_getElem (by omega)]
    rfl
  have h6 : sKd.size = 6 := rfl
  rw [hd, h6] at hr'
  have hl : L.length - (L.length - 1) = [lastL L].length := by simp; omega
  rw [hl] at hs
  refine ⟨_, ⟨v', _, G', rfl, hcap, hs, hr', rfl⟩, fun i hi => ?_⟩
  rw [hF, if_neg (by intro e; rw [e] at h0; simp at h0)]
  rw [if_neg (by simp)] at hi
  rcases List.mem_append.1 hi with hi | hi
  · exact List.mem_append.2 (.inl (hf i hi))
  · exact List.mem_append.2 (.inr (hG' i hi))
theorem sl_len {w : World} {size n : Nat} {v : Value} {l : List Value} (h : Sl w size v n l) : l.length = n * size := by obtain ⟨A, c, e, hl, _⟩ := h; exact hl
/-- change: the list of what it may be. -/
theorem kdchange_c {w : World} {px pd pk : Nat} {lsv : Value} {L : List KD} {FL Fm : List Nat} {k : KD} {cs : List Value} {e : Int} {safe : Bool} (hB : Bk w px 60 (dCells pd pk lsv)) (hL : sKds.rd w [lsv] L FL) (hm : sKd.rd w cs k Fm) (hpF : px ∉ FL) (hpm : px ∉ Fm) (h0 : 0 < L.length) (hL1 : L.length ≤ 1000000) :
    CallF Try.prog 82 #[ptr px, .agg (List.toArray cs), .int .i64 e, .int .i64 e, .bool safe] w fun r w' => r = .bool true ∧ Fr [px] w w' ∧ ∃ lsv2 FL2, Bk w' px 60 (dCells pd pk lsv2) ∧
      sKds.rd w' [lsv2] (if e = 0 then (if safe then [k] else L ++ [k]) else L) FL2 ∧ (∀ i ∈ FL2, i ∈ FL ∨ i ∈ Fm ∨ w.heap.size ≤ i) ∧ px ∉ FL2 := by
  refine C_furlonglaw16_desk_change_link ?_
  unfold C_furlonglaw16_desk_change
  refine box' (l := cs) rfl ?_
  intro bm w1 hbm hBm hF1 hs1
  have hB1 := hB.fr hF1 (by simp)
  have hL1' := sKds.fr hL hF1 (fun i _ => by simp)
  have hm1 := sKd.fr hm hF1 (fun i _ => by simp)
  have hpx := hB.lt
  have hcl : cs.length = 6 := sKd.len hm
  refine neq (if_f (by simp) (eql ?_))
  refine ⟨fun w' => Fr [px] w w' ∧ ∃ lsv2 FL2, Bk w' px 60 (dCells pd pk lsv2) ∧ sKds.rd w' [lsv2] (if e = 0 then L ++ [k] else L) FL2 ∧ (∀ i ∈ FL2, i ∈ FL ∨ i ∈ Fm ∨ w.heap.size ≤ i) ∧ px ∉ FL2, ?_, if_p (fun he => ?_) (fun he => ?_)⟩
  · rintro w2 ⟨hF2, lsv2, FL2, hB2, hL2, hFL2, hpx2⟩
    refine eql ?_
    by_cases he : e = 0
    · rw [if_pos he] at hL2
      have e1 : decide (e = 0) = true := by simpa using he
      rw [e1]
      refine gdT rfl rfl (pick_t rfl ?_)
      refine ⟨fun w' => Fr [px] w w' ∧ ∃ lsv2 FL2, Bk w' px 60 (dCells pd pk lsv2) ∧ sKds.rd w' [lsv2] (if e = 0 then (if safe then [k] else L ++ [k]) else L) FL2 ∧ (∀ i ∈ FL2, i ∈ FL ∨ i ∈ Fm ∨ w.heap.size ≤ i) ∧ px ∉ FL2, fun w' h => ⟨rfl, h⟩, if_b (fun hs => ?_) (fun hs => ?_)⟩
      · have hlen : (L ++ [k]).length = L.length + 1 := by rw [List.length_append]; simp
        have hd2 := Fr.drew [] w2
        have hB2d := hB2.drew
        have hL2d := sKds.fr hL2 hd2 (fun i _ => by simp)
        obtain ⟨cells, G, hcap, hsl, hrows, hGF, hFe⟩ := list_open hL2d
        refine ⟨fun w' => Bk w' px 60 (dCells pd pk lsv2), hB2d, ?_⟩
        refine nilC (fad (ldC_S (fun w' h => h) rfl (nilC (fad (ldC_S (fun w' h => h) rfl (hsl.lenV (sub64 (by omega) ?_)))))))
        rw [show ((L ++ [k]).length : Int) - 1 = (((L ++ [k]).length - 1 : Nat) : Int) by omega]
        refine slcLo hsl hcap (by omega) ?_
        intro v3 hs3 hc3 hf3
        have hct := sl_len hsl
        have h6 : sKd.size = 6 := rfl
        rw [h6] at hct
        have etk : List.take (((L ++ [k]).length - ((L ++ [k]).length - 1)) * 6) (List.drop (((L ++ [k]).length - 1) * 6) cells) = List.drop (((L ++ [k]).length - 1) * 6) cells := by
          exact List.take_of_length_le (by rw [List.length_drop, hct, ← Nat.sub_mul]; exact Nat.le_refl _)
        rw [etk] at hs3
        obtain ⟨F', hrd, hF'⟩ := kds_last hc3 hrows (by omega) hs3 hf3 hFe
        rw [lastL_snoc] at hrd
        refine nilC (fad (store' hB2d (by kernel_rfl) (by simp [dCells]) (sKds.one hrd _ (by simp)) ?_))
        intro w4 hB4 hF4 _
        have hne : ∀ i ∈ F', i ∉ [px] := fun i hi hm => by simp at hm; subst hm; exact hpx2 (hF' _ hi)
        refine ⟨(hF2.trans hd2 (fun i hi => by simp at hi)).t hF4, v3, F', by simpa [dCells] using hB4, ?_, fun i hi => hFL2 i (hF' i hi), fun hm => hpx2 (hF' _ hm)⟩
        rw [if_pos he, if_pos hs]
        exact sKds.fr hrd hF4 hne
      · exact ⟨hF2, lsv2, FL2, hB2, by rw [if_pos he, if_neg (by simp [hs])]; exact hL2, hFL2, hpx2⟩
    · rw [if_neg he] at hL2
      have e1 : decide (e = 0) = false := by simpa using he
      rw [e1]
      refine gdF rfl (pick_f rfl ?_)
      refine ⟨fun w' => Fr [px] w w' ∧ ∃ lsv2 FL2, Bk w' px 60 (dCells pd pk lsv2) ∧ sKds.rd w' [lsv2] (if e = 0 then (if safe then [k] else L ++ [k]) else L) FL2 ∧ (∀ i ∈ FL2, i ∈ FL ∨ i ∈ Fm ∨ w.heap.size ≤ i) ∧ px ∉ FL2, fun w' h => ⟨rfl, h⟩, if_f rfl ?_⟩
      exact ⟨hF2, lsv2, FL2, hB2, by rw [if_neg he]; exact hL2, hFL2, hpx2⟩
  · refine ⟨fun w' => Fr [px] w w' ∧ ∃ lsv2 FL2, Bk w' px 60 (dCells pd pk lsv2) ∧ sKds.rd w' [lsv2] (if e = 0 then L ++ [k] else L) FL2 ∧ (∀ i ∈ FL2, i ∈ FL ∨ i ∈ Fm ∨ w.heap.size ≤ i) ∧ px ∉ FL2, fun w' h => h, ?_⟩
    have hd1 := Fr.drew [] w1
    have hm1d := sKd.fr hm1 hd1 (fun i _ => by simp)
    have hL1d := sKds.fr hL1' hd1 (fun i _ => by simp)
    obtain ⟨cells, G, hcap, hsl, hrows, hGF, hFe⟩ := list_open hL1d
    have hz0 : w.heap.size ≤ w1.drew.heap.size := hF1.size
    have hmlt := sKd.lt hm
    have hLlt := sKds.lt hL
    let S : World → Prop := fun w' => Bk w' px 60 (dCells pd pk lsv) ∧ Bk w' bm 67 cs
    have hS : ∀ {w'}, Fr [] w1.drew w' → S w' := fun f => ⟨(hB1.fr hd1 (by simp)).fr f (by simp), (hBm.fr hd1 (by simp)).fr f (by simp)⟩
    have close : ∀ (v : Value) (w2 : World), New w1.drew w2 67 6 v (0 + L.length + 1) ([] ++ cells ++ cs) → NilC (ptr px) fun t26 => FAd 2 t26 fun t27 => DoU Try.prog (Instr.storeAt 58 t27 v) w2 fun _ w' => Fr [px] w w' ∧ ∃ lsv2 FL2, Bk w' px 60 (dCells pd pk lsv2) ∧ sKds.rd w' [lsv2] (if e = 0 then L ++ [k] else L) FL2 ∧ (∀ i ∈ FL2, i ∈ FL ∨ i ∈ Fm ∨ w.heap.size ≤ i) ∧ px ∉ FL2 := by
      intro v w2 hN
      have hrd := kds_snoc hN (rows_fr sKd hN.fr hrows (fun i _ => by simp)) (sKd.fr hm1d hN.fr (fun i _ => by simp))
      have hnew := hN.new
      have hmem : ∀ i ∈ fp v ++ (G ++ Fm), i ∈ FL ∨ i ∈ Fm ∨ w.heap.size ≤ i := by
        intro i hi
        rcases List.mem_append.1 hi with hi | hi
        · exact .inr (.inr (by have := hnew i hi; omega))
        · exact (List.mem_append.1 hi).elim (fun h' => .inl (hGF i h')) (fun h' => .inr (.inl h'))
      have hpx3 : px ∉ fp v ++ (G ++ Fm) := fun hm => by
        rcases hmem _ hm with h' | h' | h'
        · exact hpF h'
        · exact hpm h'
        · omega
      refine nilC (fad (store' (hS hN.fr).1 (by kernel_rfl) (by simp [dCells]) (sKds.one hrd _ (by simp)) ?_))
      intro w3 hB3 hF3 _
      refine ⟨((hF1.t hd1).t hN.fr).mono (fun i hi => by simp at hi) |>.t hF3, v, _, by simpa [dCells] using hB3, ?_, hmem, hpx3⟩
      rw [if_pos he]
      exact sKds.fr hrd hF3 (fun i hi hm => hpx3 (by simp at hm; subst hm; exact hi))
    have hone := sKd.one hm
    refine ⟨S, hS (Fr.refl _ _), ?_⟩
    refine nilC (fad (ldC_S (fun w' h => h.1) rfl ?_))
    refine ldA_S (l := cs) (fun w' h => h.2) (by omega) ?_
    have ecs : List.take 6 (List.drop 0 cs) = cs := by rw [List.drop_zero]; exact List.take_of_length_le (by omega)
    rw [ecs]
    refine ⟨?_, ?_⟩
    · refine lit_empty Try.underlying58 infoM ?_
      intro v2 w2 hN2
      refine ⟨hS hN2.fr, ?_, ?_⟩
      · refine append' hN2 Try.underlying58 infoM rfl (by omega) (hsl.fr hN2.fr (fun i _ => by simp)) (rows_one sKd hrows) (by omega) (by omega) ?_
        intro v3 w3 hN3 _ _
        refine ⟨hS hN3.fr, lit1 Try.underlying58 infoM (by decide) (show (Value.agg (List.toArray cs)).cells.toList = cs from rfl) hcl ?_⟩
        intro b4 w4 hb4 hB4 hF4 _
        have hN4 := hN3.fresh hF4
        refine ⟨hS hN4.fr, append' hN4 Try.underlying58 infoM rfl (by omega) (Bk.slN hB4 (by omega) 1) hone (by omega) (by omega) ?_⟩
        intro v5 w5 hN5 _ _
        exact ⟨hS hN5.fr, close v5 w5 hN5⟩
      · refine lit1 Try.underlying58 infoM (by decide) (show (Value.agg (List.toArray cs)).cells.toList = cs from rfl) hcl ?_
        intro b4 w4 hb4 hB4 hF4 _
        have hN4 := hN2.fresh hF4
        have hlt2 := hN2.own.lt
        have hnew2 := hN2.new
        refine ⟨hS hN4.fr, append' hN4 Try.underlying58 infoM rfl (by omega) (hsl.fr hN4.fr (fun i _ => by simp)) (rows_one sKd hrows) (by omega) (by omega) ?_⟩
        intro v3 w3 hN3 hF3 _
        refine ⟨hS hN3.fr, append' hN3 Try.underlying58 infoM rfl (by omega) (Bk.slN (hB4.fr hF3 (fun hm => by have := hlt2 _ hm; omega)) (by omega) 1) hone (by omega) (by omega) ?_⟩
        intro v5 w5 hN5 _ _
        exact ⟨hS hN5.fr, close v5 w5 hN5⟩
    · refine lit1 Try.underlying58 infoM (by decide) (show (Value.agg (List.toArray cs)).cells.toList = cs from rfl) hcl ?_
      intro b4 w4 hb4 hB4 hF4 _
      refine ⟨hS hF4, lit_empty Try.underlying58 infoM ?_⟩
      intro v2 w2 hN2
      have hN2' := hN2.base hF4
      have hB42 := hB4.fr hN2.fr (by simp)
      have hnew2 := hN2.new
      have hb4lt := hB4.lt
      have hb4n : b4 ∉ fp v2 := fun hm => by have := hnew2 _ hm; omega
      refine ⟨hS hN2'.fr, append' hN2' Try.underlying58 infoM rfl (by omega) (hsl.fr hN2'.fr (fun i _ => by simp)) (rows_one sKd hrows) (by omega) (by omega) ?_⟩
      intro v3 w3 hN3 hF3 _
      refine ⟨hS hN3.fr, append' hN3 Try.underlying58 infoM rfl (by omega) (Bk.slN (hB42.fr hF3 hb4n) (by omega) 1) hone (by omega) (by omega) ?_⟩
      intro v5 w5 hN5 _ _
      exact ⟨hS hN5.fr, close v5 w5 hN5⟩
  · exact ⟨hF1.mono (fun i hi => by simp at hi), lsv, FL, hB1, by rw [if_neg he]; exact hL1', fun i hi => .inl hi, hpF⟩
end Go.Proofs.Ytmlaconjeplhpaa

set_option linter.unusedVariables false
set_option linter.unusedSimpArgs false
set_option maxRecDepth 20000
namespace Go.Proofs.Ytmlaconjeplhpaa
open Go Go.Vc

section
variable {S : World → Prop} {w : World} {size n i : Nat} {κ : IntKind} {v : Value} {cells : List Value} {k : Value → Prop}
theorem ixN_ex (hs : ∀ w', S w' → Sl w' size v n cells) (h0 : Sl w size v n cells) (hi : i < n) :
    ∃ a, IAdS size v (.int κ i) (fun x => x = .pointer (some a)) ∧ LdA S size (.pointer (some a)) (fun x => x = .agg ((cells.drop (i * size)).take size).toArray) := by
  obtain ⟨A, c, rfl, hl, hn, hc⟩ := h0
  have hl' : ((cells.drop (i * size)).take size).length = size := by
    have : (i + 1) * size ≤ n * size := Nat.mul_le_mul_right _ (by omega)
    rw [Nat.add_mul] at this
    simp; omega
  cases A with
  | none => have := (hn rfl).1; omega
  | some b =>
    refine ⟨b.add (i * size), ⟨by omega, by omega, by simp⟩, _, hl', fun w' e j u hj => ?_, rfl⟩
    obtain ⟨A', c', e', _, _, hc'⟩ := hs w' e
    cases e'
    rw [List.getElem?_take] at hj
    split at hj
    · rw [List.getElem?_drop] at hj
      rw [add_add']
      exact hc' b rfl _ u hj
    · cases hj
theorem ixNS (hs : ∀ w', S w' → Sl w' size v n cells) (h0 : Sl w size v n cells) (hi : i < n) (h : k (.agg ((cells.drop (i * size)).take size).toArray)) : IAdS size v (.int κ i) fun t => LdA S size t k := by
  obtain ⟨a, h1, h2⟩ := ixN_ex (κ := κ) hs h0 hi
  obtain ⟨A, c, rfl, hl, hn, hc⟩ := h0
  cases A with
  | none => have := (hn rfl).1; omega
  | some b =>
    obtain ⟨x1, x2, x3⟩ := h1
    refine ⟨x1, x2, ?_⟩
    obtain ⟨l, y1, y2, y3⟩ := h2
    rw [x3]
    refine ⟨l, y1, y2, ?_⟩
    rw [y3]
    exact h
end
theorem Kt.cnt {w0 w : World} {pk pd cp bnd z : Nat} {L : List KD} {Y : List Nat} (h : Kt w0 w pk pd cp bnd z L Y) : L.length ≤ bnd + 1 := by
  obtain ⟨ps, bb, lv, tv, sv, ev, D, gen, life, at', safe, tail, whole, snap, list, k0, ks, F1, F2, h, rfl⟩ := h
  have := h.path.len
  have := h.cnt
  simp; omega
structure DkAt (w0 w : World) (px pd pk cp bnd z : Nat) (lsv : Value) (L : List KD) (FL : List Nat) : Prop where
  blk : Bk w px 60 (dCells pd pk lsv)
  kt : Kt w0 w pk pd cp bnd z L (px :: FL)
  lst : sKds.rd w [lsv] L FL
  new : w0.heap.size ≤ px
  nx : px ∉ FL
/-- A desk stands at px; what it may be behind a crash: L. -/
def Dk16 (w0 w : World) (px cp bnd z : Nat) (L : List KD) : Prop := ∃ pd pk lsv FL, DkAt w0 w px pd pk cp bnd z lsv L FL
section
variable {w0 w : World} {px pd pk cp bnd z : Nat} {lsv : Value} {L : List KD} {FL : List Nat}
theorem DkAt.fresh (h : DkAt w0 w px pd pk cp bnd z lsv L FL) {w' : World} (f : Fr [] w w') : DkAt w0 w' px pd pk cp bnd z lsv L FL :=
  ⟨h.blk.fr f (by simp), h.kt.step f (fun i hi => .inl hi), sKds.fr h.lst f (fun i _ => by simp), h.new, h.nx⟩
theorem Dk16.fresh (h : Dk16 w0 w px cp bnd z L) {w' : World} (f : Fr [] w w') : Dk16 w0 w' px cp bnd z L := by
  obtain ⟨pd, pk, lsv, FL, h⟩ := h
  exact ⟨pd, pk, lsv, FL, h.fresh f⟩
theorem Dk16.up (h : Dk16 w0 w px cp bnd z L) {b2 z2 : Nat} (hb : bnd ≤ b2) (h2 : b2 ≤ 400) (hz : z ≤ z2) (hz2 : z2 ≤ cp) : Dk16 w0 w px cp b2 z2 L := by
  obtain ⟨pd, pk, lsv, FL, h⟩ := h
  exact ⟨pd, pk, lsv, FL, { h with kt := h.kt.up hb h2 hz hz2 }⟩
theorem Dk16.frn (h : Dk16 w0 w px cp bnd z L) : Fr [] w0 w := by
  obtain ⟨pd, pk, lsv, FL, h⟩ := h
  exact h.kt.frn
end
/-- A list of one. -/
theorem kds_one {w : World} {b : Nat} {k : KD} {cs : List Value} {Fm : List Nat} (hB : Bk w b 67 cs) (hm : sKd.rd w cs k Fm) : sKds.rd w [.slice (some ⟨b, 0, none⟩) 1 1] [k] (b :: Fm) := by
  have hl := sKd.len hm
  have h6 : sKd.size = 6 := rfl
  refine ⟨_, cs, Fm ++ [], rfl, Nat.le_refl _, ?_, ⟨cs, [], Fm, [], by simp, rfl, hm, rfl, rfl⟩, ?_⟩
  · exact Bk.slN hB (n := 1) (by rw [hl, Nat.one_mul]) 1
  · rw [if_neg (by simp), fp_some, List.append_nil]; rfl
theorem kdcrash_c {w0 w : World} {px cp bnd z : Nat} {L : List KD} (keep : Nat) (h : Dk16 w0 w px cp bnd z L) (hb : bnd < 400) :
    CallF Try.prog 43 #[ptr px, .int .i64 keep] w fun r w' => r = .bool true ∧ ∃ (j : Nat) (hj : j < L.length), (keep = 0 → j = 0) ∧ Dk16 w0 w' px cp (bnd + 1) z [L[j]] := by
  obtain ⟨pd, pk, lsv, FL, h⟩ := h
  refine C_furlonglaw16_desk_crash_link ?_
  unfold C_furlonglaw16_desk_crash
  refine nilC (fad (ldC_bk h.blk rfl ((kcrash_c h.kt hb keep).use ?_)))
  rintro _ w1 ⟨hO1, rfl, j0, hj0, hjk, hcr⟩
  have hB1 := hO1.bk h.blk (.inl (by simp))
  have hL1 := hO1.rd h.lst (fun b hb => .inl (by simp [hb]))
  refine neq (if_f (by simp) (nilC (fad (ldC_bk hB1 rfl ((kopen2_c hcr).use ?_)))))
  rintro _ w2 ⟨hO2, pk2, rfl, hpk2, hkt2⟩
  have hB2 := hO2.bk hB1 (.inl (by simp))
  have hL2 := hO2.rd hL1 (fun b hb => .inl (by simp [hb]))
  refine ext0 (ext1 (neq (gdT rfl rfl (gdT rfl (ptr_eql und57 rfl) (pick_f rfl (if_f rfl ?_))))))
  obtain ⟨ps, sv, ev, F1, F2, hkp2⟩ := hkt2.kp
  have hwf := hkt2.wfl
  rw [lastL_one] at hkp2 hwf
  have hwL := h.kt.wf
  refine (now_c hkp2 hwf.1).use ?_
  rintro _ w3 ⟨hF3, cs, Fm, rfl, hm3, hmn⟩
  refine ext0 (ext1 ?_)
  refine alloc_n (n := 6) (by kernel_rfl) ?_
  intro bm w4 l4 hl4 hbm hB4 hF4 hs4
  refine store_all (n := 6) (vs := cs) hB4 szM hl4 (sKd.len hm3) (by omega) (sKd.one hm3) ?_
  intro w5 hB5 hF5 hs5
  have hmlt := sKd.lt hm3
  have f35 : Fr [] w3 w5 := hF4.trans hF5 (fun i hi => .inr (by simp at hi; omega))
  have f25 : Fr [] w2 w5 := hF3.t f35
  have hm5 := sKd.fr hm3 f35 (fun i _ => by simp)
  have hpx5 := hB2.fr f25 (by simp)
  have hL5 := sKds.fr hL2 f25 (fun i _ => by simp)
  have z3 := hF3.size
  have z35 := f35.size
  have hkt5 := hkt2.step f25 (Y2 := px :: FL ++ Fm) (fun i hi => by
    rcases List.mem_append.1 hi with hi | hi
    · exact .inl hi
    · exact .inr ⟨hmn i hi, by have := hmlt i hi; omega⟩)
  obtain ⟨cells, G, hcap, hsl, hrows, hGF, hFe⟩ := list_open hL5
  have hcnt := h.kt.cnt
  have hxlt := hB2.lt
  refine nilC (fad (ldC_bk hpx5 rfl (hsl.lenV ?_)))
  refine ⟨fun m _ t w' => ∃ j : Nat, j + m = L.length ∧ t = .int .i64 j ∧ Fr [] w5 w' ∧ ∀ i, i < j → ∀ hi : i < L.length, L[i] ≠ L[j0], L.length, ⟨0, by omega, rfl, Fr.refl _ _, fun i hi => by omega⟩, ?_⟩
  rintro m _ _ w6 ⟨j, hj, rfl, hF6, hno⟩
  refine lss (if_p (fun hlt => ?_) (fun hge => ?_))
  case refine_2 => exact absurd rfl (hno j0 (by omega) hj0)
  have hjl : j < L.length := by omega
  refine ixN (hsl.fr hF6 (fun i _ => by simp)) hjl ?_
  obtain ⟨Gj, hrd, hGj⟩ := rows_get sKd hrows j hjl
  have h6 : sKd.size = 6 := rfl
  rw [h6] at hrd
  obtain ⟨cj, hcj⟩ : ∃ cj, List.take 6 (List.drop (j * 6) cells) = cj := ⟨_, rfl⟩
  rw [hcj] at hrd ⊢
  have hrd6 := sKd.fr hrd hF6 (fun i _ => by simp)
  have hcl := sKd.len hrd
  refine alloc_n (n := 6) (by kernel_rfl) ?_
  intro bl w7 l7 hl7 hbl hB7 hF7 hs7
  refine store_all (n := 6) (vs := cj) hB7 szM hl7 hcl (by omega) (sKd.one hrd) ?_
  intro w8 hB8 hF8 hs8
  have f68 : Fr [] w6 w8 := hF7.trans hF8 (fun i hi => .inr (by simp at hi; omega))
  have f58 := hF6.t f68
  have hbm8 := hB5.fr f58 (by simp)
  have hcml := sKd.len hm5
  refine gdT rfl (ldA_bk hB8 (by rw [hcl]; exact Nat.le_refl _) rfl) (gdT rfl (ldA_bk hbm8 (by rw [hcml]; exact Nat.le_refl _) rfl) (gT rfl ?_))
  have e1 : List.take 6 (List.drop 0 cj) = cj := by rw [List.drop_zero]; exact List.take_of_length_le (by rw [hcl]; exact Nat.le_refl _)
  have e2 : List.take 6 (List.drop 0 cs) = cs := by rw [List.drop_zero]; exact List.take_of_length_le (by rw [hcml]; exact Nat.le_refl _)
  rw [e1, e2]
  refine (same_c (sKd.fr hrd6 f68 (fun i _ => by simp)) (sKd.fr hm5 f58 (fun i _ => by simp)) (hwL _ (List.getElem_mem hjl)).1 hwf.1).use ?_
  rintro _ w9 ⟨hF9, c, rfl, hc⟩
  refine pick_t rfl (if_b (fun hct => ?_) (fun hcf => ?_))
  case refine_2 =>
    refine add64 (by omega) ⟨m - 1, by omega, j + 1, by omega, by congr 1, f58.t hF9, fun i hi hil => ?_⟩
    by_cases hij : i = j
    · subst hij
      intro e
      have := hc.2 e
      rw [this] at hcf
      cases hcf
    · exact hno i (by omega) hil
  have hd9 := Fr.drew [] w9
  have f59 : Fr [] w5 w9.drew := (f58.t hF9).t hd9
  refine ⟨fun w' => Dk16 w0 w' px cp (bnd + 1) z [L[j0]], fun w' h' => ⟨rfl, j0, hj0, hjk, h'⟩, ?_⟩
  refine ⟨fun w' => Bk w' bm 67 cs, hB5.fr f59 (by simp), ?_⟩
  refine ldA_S (l := cs) (fun w' h => h) (by rw [hcml]; exact Nat.le_refl _) ?_
  rw [e2]
  have hpx9 := hpx5.fr f59 (by simp)
  have hkt9 := hkt5.step f59 (Y2 := px :: FL ++ Fm) (fun i hi => .inl hi)
  have hm9 := sKd.fr hm5 f59 (fun i _ => by simp)
  have hxm : px ∉ Fm := fun hm => by have := hmn _ hm; omega
  have z59 := f59.size
  have hbx : px ≠ bm := by omega
  -- the desk, when its fields are set
  have fin : ∀ (b : Nat) (wz wa wb : World), Fr [px] w9.drew wz → wz.heap.size ≤ b → b < wa.heap.size → Fr [] wz wa → Fr [px] wa wb → Bk wa b 67 cs → Bk wb px 60 (dCells pd pk2 (.slice (some ⟨b, 0, none⟩) 1 1)) → Dk16 w0 wb px cp (bnd + 1) z [L[j0]] := by
    intro b wz wa wb fz hb1 hb2 fa fb hBb hBx
    have z9z := fz.size
    have hbn : b ≠ px := by omega
    have hktZ := hkt9.touch fz (fun i hi => by simp at hi; subst hi; exact ⟨by simp, h.new⟩)
    have hmz := sKd.fr hm9 fz (fun i hi hm => by simp at hm; subst hm; exact hxm hi)
    have hktA := hktZ.step fa (Y2 := px :: (b :: Fm)) (fun i hi => by
      rcases List.mem_cons.1 hi with rfl | hi
      · exact .inl (by simp)
      · rcases List.mem_cons.1 hi with rfl | hi
        · exact .inr ⟨hb1, hb2⟩
        · exact .inl (by simp [hi]))
    have hone := kds_one hBb (sKd.fr hmz fa (fun i _ => by simp))
    exact ⟨pd, pk2, _, b :: Fm, hBx, hktA.touch fb (fun i hi => by simp at hi; subst hi; exact ⟨by simp, h.new⟩), sKds.fr hone fb (fun i hi hm => by
      simp at hm; subst hm
      rcases List.mem_cons.1 hi with e | hi
      · exact hbn e.symm
      · exact hxm hi), h.new, fun hm => by
      rcases List.mem_cons.1 hm with e | hm
      · exact hbn e.symm
      · exact hxm hm⟩
  refine nilC (fad ⟨?_, ?_⟩)
  · refine lit1 Try.underlying58 infoM (by decide) (show (Value.agg (List.toArray cs)).cells.toList = cs from rfl) hcml ?_
    intro b w10 hb10 hB10 hF10 hs10
    refine store' (hpx9.fr hF10 (by simp)) (by kernel_rfl) (by simp [dCells]) rfl ?_
    intro w11 hB11 hF11 hs11
    refine ⟨((hB5.fr f59 (by simp)).fr hF10 (by simp)).fr hF11 (by simp; omega), nilC (fad (store' hB11 (by kernel_rfl) (by simp [dCells]) rfl ?_))⟩
    intro w12 hB12 hF12 hs12
    exact fin b _ w10 w12 (Fr.refl _ _) (by omega) (by omega) hF10 (hF11.t hF12) hB10 (by simpa [dCells] using hB12)
  · refine store' hpx9 (by kernel_rfl) (by simp [dCells]) rfl ?_
    intro w10 hB10 hF10 hs10
    refine ⟨(hB5.fr f59 (by simp)).fr hF10 (by simp; omega), ?_⟩
    refine lit1 Try.underlying58 infoM (by decide) (show (Value.agg (List.toArray cs)).cells.toList = cs from rfl) hcml ?_
    intro b w11 hb11 hB11 hF11 hs11
    refine nilC (fad (store' (hB10.fr hF11 (by simp)) (by kernel_rfl) (by simp [dCells]) rfl ?_))
    intro w12 hB12 hF12 hs12
    exact fin b w10 w11 w12 hF10 (by omega) (by omega) hF11 hF12 hB11 (by simpa [dCells] using hB12)
end Go.Proofs.Ytmlaconjeplhpaa

set_option linter.unusedVariables false
set_option linter.unusedSimpArgs false
set_option maxRecDepth 20000
namespace Go.Proofs.Ytmlaconjeplhpaa
open Go Go.Vc

theorem voted_rd {w : World} {k : KD} {sv ev : Value} {F1 F2 : List Nat} {t v : Int} (h1 : sSl.rd w [sv] k.snap F1) (h2 : sEns.rd w [ev] k.ents F2) : sKd.rd w (mCells (k.voted t v) sv ev) (k.voted t v) (F1 ++ F2) := ⟨sv, ev, F1, F2, rfl, h1, h2, rfl⟩
/-- The last of the desk's list. -/
theorem last_get {w : World} {L : List KD} {cells : List Value} {G : List Nat} (hr : sKd.rows w L cells G) (h0 : 0 < L.length) : ∃ cs F, List.take 6 (List.drop ((L.length - 1) * 6) cells) = cs ∧ sKd.rd w cs (lastL L) F ∧ ∀ i ∈ F, i ∈ G := by
  obtain ⟨F, hrd, hF⟩ := rows_get sKd hr (L.length - 1) (by omega)
  have h6 : sKd.size = 6 := rfl
  rw [h6] at hrd
  refine ⟨_, F, rfl, ?_, hF⟩
  have e : lastL L = L[L.length - 1] := by
    unfold lastL
    rw [List.getLast?_eq_getElem?, List.getElem?_eq_getElem (by omega)]
    rfl
  rw [e]
  exact hrd
theorem Kt.mix {w0 w w' : World} {pk pd cp bnd z : Nat} {L : List KD} {X Y Y2 : List Nat} (h : Kt w0 w pk pd cp bnd z L Y) (f : Fr X w w') (hX : ∀ i ∈ X, i ∈ Y ∧ w0.heap.size ≤ i) (hy : ∀ i ∈ Y2, i ∈ Y ∨ (w.heap.size ≤ i ∧ i < w'.heap.size)) : Kt w0 w' pk pd cp bnd z L Y2 := by
  obtain ⟨ps, bb, lv, tv, sv, ev, D, gen, life, at', safe, tail, whole, snap, list, k0, ks, F1, F2, h, rfl⟩ := h
  have hlt := h.sk.lt
  have hpl := h.kp.blk.lt
  have hs := f.size
  have hF1 := sSl.lt h.kp.snp
  have hF2 := sEns.lt h.kp.ent
  exact ⟨ps, bb, lv, tv, sv, ev, D, gen, life, at', safe, tail, whole, snap, list, k0, ks, F1, F2, { h.touch f hX with dis2 := fun i hi => (hy i hi).elim (h.dis2 i) (fun h' => ⟨fun hm => by have := hF1 i hm; omega, fun hm => by have := hF2 i hm; omega⟩), dis := fun i hi hm => (hy i hm).elim (h.dis i hi) (fun h' => by rcases hi with rfl | hi; omega; have := hlt i hi; omega), ylt := fun i hi => (hy i hi).elim (fun h' => by have := h.ylt i h'; omega) (fun h' => h'.2) }, rfl⟩
structure OpD where
  kind : Int
  index : Int
  term : Int
  vote : Int
  p : List Nat
def oCells (o : OpD) (pv : Value) : List Value := [.int .i64 o.kind, .int .i64 o.index, .int .i64 o.term, .int .i64 o.vote, pv]
def okOp (o : OpD) : Prop := I64 o.kind ∧ I64 o.index ∧ I64 o.term ∧ I64 o.vote ∧ ∀ c ∈ o.p, c < 256
theorem kddo_c {w0 w : World} {px cp bnd z : Nat} {L : List KD} {o : OpD} {pv : Value} {Fp : List Nat} (h : Dk16 w0 w px cp bnd z L) (hb : bnd < 400) (ho : okOp o) (hx : sSl.rd w0 [pv] o.p Fp) (hz : z + o.p.length + 100 ≤ cp) :
    CallF Try.prog 42 #[ptr px, .agg (List.toArray (oCells o pv))] w fun r w' => r = .bool true ∧ ∃ L', Dk16 w0 w' px cp (bnd + 1) (z + o.p.length + 100) L' := by
  obtain ⟨i1, i2, i3, i4, ib⟩ := ho
  obtain ⟨pd, pk, lsv, FL, h⟩ := h
  have hzc := h.kt.zc
  have hcnt := h.kt.cnt
  have hne := h.kt.ne
  obtain ⟨hxs0, hx0⟩ := sSl_sl hx
  refine C_furlonglaw16_desk_do_link ?_
  unfold C_furlonglaw16_desk_do
  refine box' (l := oCells o pv) rfl ?_
  intro bo w1 hbo hBo hF1 hs1
  have hd1 := Fr.drew [] w1
  have f01 := hF1.t hd1
  have h1 := h.fresh f01
  have hxlt := h.blk.lt
  obtain ⟨cells, G, hcap, hsl, hrows, hGF, hFe⟩ := list_open h1.lst
  obtain ⟨cs, Fl, hcs, hrd, hFl⟩ := last_get hrows hne
  have hFlL : ∀ i ∈ Fl, i ∈ FL := fun i hi => hGF i (hFl i hi)
  have hFLlt := sKds.lt h.lst
  let S0 : World → Prop := fun w' => Bk w' px 60 (dCells pd pk lsv) ∧ Sl w' 6 lsv L.length cells
  have hS0 : ∀ {w'}, Fr [] w1.drew w' → S0 w' := fun f => ⟨h1.blk.fr f (by simp), hsl.fr f (fun i _ => by simp)⟩
  refine ⟨S0, hS0 (Fr.refl _ _), ?_⟩
  refine nilC (fad (ldC_S (fun w' h => h.1) rfl (nilC (fad (ldC_S (fun w' h => h.1) rfl (hsl.lenV (sub64 (by omega) ?_)))))))
  rw [show (L.length : Int) - 1 = ((L.length - 1 : Nat) : Int) by omega]
  refine ixNS (S := S0) (fun w' h => h.2) hsl (by omega) ?_
  rw [hcs]
  have hcl := sKd.len hrd
  refine alloc_n (n := 6) (by kernel_rfl) ?_
  intro bl w2 l2 hl2 hbl hB2 hF2 hs2
  refine ⟨hS0 hF2, ?_⟩
  refine store_all (n := 6) (vs := cs) hB2 szM hl2 hcl (by omega) (sKd.one hrd) ?_
  intro w3 hB3 hF3 hs3
  have f13 : Fr [] w1.drew w3 := hF2.trans hF3 (fun i hi => .inr (by simp at hi; omega))
  have f03 := f01.t f13
  have h3 := h.fresh f03
  have hrd3 := sKd.fr hrd f13 (fun i _ => by simp)
  have hBo3 : Bk w3 bo 71 (oCells o pv) := (hBo.fr hd1 (by simp)).fr f13 (by simp)
  have zd : w1.drew.heap.size = w1.heap.size := rfl
  have z13 := f13.size
  have hFR : ∀ {w'}, Out w0 w3 w' (px :: bo :: FL) → True := fun _ => trivial
  have e6 : List.take 6 (List.drop 0 cs) = cs := by rw [List.drop_zero]; exact List.take_of_length_le (by rw [hcl]; exact Nat.le_refl _)
  have hx3 : Sl w3 1 pv o.p.length (bytes o.p) := hxs0.fr h3.kt.frn (fun i _ => by simp)
  have hpl : o.p.length ≤ 500000 := by omega
  have hwl := h3.kt.wfl
  -- behind the call
  let J : Value → World → Prop := fun ok w' => ok = .bool true ∧ ∃ L', Dk16 w0 w' px cp (bnd + 1) (z + o.p.length + 100) L'
  refine fad (ldC_bk hBo3 rfl (eql ⟨J, ?_, ?_⟩))
  · rintro _ w4 ⟨rfl, L', pd4, pk4, lsv4, FL4, h4⟩
    obtain ⟨ps4, sv4, ev4, Fa, Fb, hkp4⟩ := h4.kt.kp
    have hwf4 := h4.kt.wfl
    have hne4 := h4.kt.ne
    have hcnt4 := h4.kt.cnt
    have hzc4 := h4.kt.zc
    refine nilC (fad (ldC_bk h4.blk rfl ((now_c hkp4 hwf4.1).use ?_)))
    rintro _ w5 ⟨hF5, cm, Fm, rfl, hm5, hmn⟩
    refine ext0 (ext1 ?_)
    refine alloc_n (n := 6) (by kernel_rfl) ?_
    intro bm w6 l6 hl6 hbm hB6 hF6 hs6
    refine store_all (n := 6) (vs := cm) hB6 szM hl6 (sKd.len hm5) (by omega) (sKd.one hm5) ?_
    intro w7 hB7 hF7 hs7
    have f57 : Fr [] w5 w7.drew := (hF6.trans hF7 (fun i hi => .inr (by simp at hi; omega))).t (Fr.drew [] w7)
    have f47 := hF5.t f57
    have h7 := h4.fresh f47
    have hm7 := sKd.fr hm5 f57 (fun i _ => by simp)
    obtain ⟨cells7, G7, hcap7, hsl7, hrows7, hGF7, _⟩ := list_open h7.lst
    obtain ⟨cl, Fl7, hcl7, hrd7, hFl7⟩ := last_get hrows7 hne4
    have hml := sKd.len hm5
    let S : World → Prop := fun w' => Bk w' px 60 (dCells pd4 pk4 lsv4) ∧ Bk w' bm 67 cm ∧ Sl w' 6 lsv4 L'.length cells7
    have hS : ∀ {w'}, Fr [] w7.drew w' → S w' := fun f => ⟨h7.blk.fr f (by simp), hB7.drew.fr f (by simp), hsl7.fr f (fun i _ => by simp)⟩
    refine ⟨S, hS (Fr.refl _ _), ?_⟩
    obtain ⟨a, x1, x2⟩ := ixN_ex (κ := .i64) (S := S) (i := L'.length - 1) (fun w' h => h.2.2) hsl7 (by omega)
    refine gdT rfl rfl (pick_t rfl (gdT rfl (ldA_S (l := cm) (fun w' h => h.2.1) (by rw [hml]; exact Nat.le_refl _) rfl) (gdT rfl rfl (gdT rfl (nilC rfl) (gdT rfl (fad rfl) (gdT rfl (ldC_S (fun w' h => h.1) rfl rfl) (gdT rfl rfl (gdT rfl (nilC rfl) (gdT rfl (fad rfl) (gdT rfl (ldC_S (fun w' h => h.1) rfl rfl) (gdT rfl (hsl7.lenV rfl) (gdT rfl (sub64 (by omega) rfl) ?_))))))))))))
    rw [show (L'.length : Int) - 1 = ((L'.length - 1 : Nat) : Int) by omega]
    refine gdT rfl x1 (gdT rfl x2 (gT rfl ?_))
    have em : List.take 6 (List.drop 0 cm) = cm := by rw [List.drop_zero]; exact List.take_of_length_le (by rw [hml]; exact Nat.le_refl _)
    rw [em, hcl7]
    refine (same_c hm7 hrd7 hwf4.1 hwf4.1).use ?_
    rintro _ w8 ⟨hF8, c, rfl, hc⟩
    refine ⟨hS hF8, pick_t rfl ⟨by rw [hc.2 rfl], L', pd4, pk4, lsv4, FL4, h7.fresh hF8⟩⟩
  clear hFR
  -- what stands while the keep is called
  have hbo1 : bo ≠ px := by omega
  have hFn : ∀ i ∈ Fl, i ∈ FL := hFlL
  let St : Nat → List Value → World → Prop := fun bm cm w' => (∃ lv, Bk w' px 60 (dCells pd pk lv)) ∧ Bk w' bm 67 cm ∧ Bk w' bo 71 (oCells o pv)
  have hpkc : ∀ {bm cm w'}, St bm cm w' → w'.cell? ⟨px, 1, none⟩ = some (ptr pk) := fun h => by obtain ⟨⟨lv, hb⟩, _⟩ := h; exact hb.cell 1
  have chg : ∀ (bm : Nat) (cm : List Value) (km : KD) (Fm : List Nat) (e : Int) (safe : Bool) (L' : List KD) (w6 w7 : World), Fr [] w3 w6 → Bk w6 bm 67 cm → bm ≠ px → sKd.rd w6 cm km Fm → px ∉ Fm → Out w0 w6 w7 (px :: bo :: bm :: (FL ++ Fm)) → Kt w0 w7 pk pd cp (bnd + 1) (z + o.p.length + 100) L' (px :: bo :: bm :: (FL ++ Fm)) →
      L' = (if e = 0 then (if safe then [km] else L ++ [km]) else L) → CallF Try.prog 82 #[ptr px, .agg (List.toArray cm), .int .i64 e, .int .i64 e, .bool safe] w7 fun r w' => St bm cm w' ∧ J r w' := by
    intro bm cm km Fm e safe L' w6 w7 f36 hBm hbm hrd6 hxm hO hkt hL'
    have hpx6 := h3.blk.fr f36 (by simp)
    have hpx7 := hO.bk hpx6 (.inl (by simp))
    have hls7 := hO.rd (sKds.fr h3.lst f36 (fun i _ => by simp)) (fun b hb => .inl (by simp [hb]))
    have hrd7 := hO.rd hrd6 (fun b hb => .inl (by simp [hb]))
    have hBm7 := hO.bk hBm (.inl (by simp))
    have hBo7 := hO.bk (hBo3.fr f36 (by simp)) (.inl (by simp))
    refine (kdchange_c hpx7 hls7 hrd7 h.nx hxm hne (by omega)).use ?_
    rintro _ w8 ⟨rfl, hF8, lsv2, FL2, hB8, hL8, hFL2, hpx2⟩
    have hlt8 := sKds.lt hL8
    refine ⟨⟨⟨lsv2, hB8⟩, hBm7.fr hF8 (by simpa using hbm), hBo7.fr hF8 (by simpa using hbo1)⟩, rfl, L', pd, pk, lsv2, FL2, ⟨hB8, hkt.mix hF8 (fun i hi => by simp at hi; subst hi; exact ⟨by simp, h.new⟩) (fun i hi => ?_), by rw [hL']; exact hL8, h.new, hpx2⟩⟩
    rcases List.mem_cons.1 hi with rfl | hi
    · exact .inl (by simp)
    · rcases hFL2 i hi with h' | h' | h'
      · exact .inl (by simp [h'])
      · exact .inl (by simp [h'])
      · exact .inr ⟨h', hlt8 i hi⟩
  have hnp : ∀ Fm : List Nat, (∀ i ∈ Fm, i ∈ FL ∨ w3.heap.size ≤ i) → px ∉ Fm := fun Fm hF hm => (hF _ hm).elim h.nx (fun h' => by have := f03.size; omega)
  have hkY : ∀ {w6 : World} {bm : Nat} {Fm : List Nat}, Fr [] w3 w6 → w3.heap.size ≤ bm → bm < w6.heap.size → (∀ i ∈ Fm, (i ∈ FL ∨ w3.heap.size ≤ i) ∧ i < w6.heap.size) → Kt w0 w6 pk pd cp bnd z L (px :: bo :: bm :: (FL ++ Fm)) := fun f36 hb1 hb2 hFm => h.kt.step (f03.t f36) (fun i hi => by
    have z03 := f03.size
    have z36 := f36.size
    simp only [List.mem_cons, List.mem_append] at hi
    rcases hi with rfl | rfl | rfl | hi | hi
    · exact .inl (by simp)
    · exact .inr (by omega)
    · exact .inr (by omega)
    · exact .inl (by simp [hi])
    · rcases (hFm i hi).1 with h' | h'
      · exact .inl (by simp [h'])
      · exact .inr (by have := (hFm i hi).2; omega))
  refine if_p (fun hk0 => ?_) (fun hk0 => ?_)
  · -- Vote
    refine ldA_bk hB3 (by rw [hcl]; exact Nat.le_refl _) ?_
    rw [e6]
    refine fad (ldC_bk hBo3 rfl (fad (ldC_bk hBo3 rfl ?_)))
    obtain ⟨sv, ev, Fa, Fb, rfl, hsa, hea, rfl⟩ := hrd3
    refine (refvote_c (by exact sSl.one hsa _ (by simp)) (by exact sEns.one hea _ (by simp))).use ?_
    rintro r w4 ⟨hF4, hr⟩
    obtain ⟨cm, km, Fm, e, rfl, hrd4, hFm, hlink⟩ : ∃ cm km Fm e, r = .tuple #[.agg (List.toArray cm), .int .i64 e] ∧ sKd.rd w4 cm km Fm ∧ (∀ i ∈ Fm, i ∈ FL ∨ w3.heap.size ≤ i) ∧ (badVote (lastL L) o.term o.vote ∧ e = 1 ∨ ¬ badVote (lastL L) o.term o.vote ∧ e = 0 ∧ km = (lastL L).voted o.term o.vote) := by
      have hs4 := sSl.fr hsa hF4 (fun i _ => by simp)
      have he4 := sEns.fr hea hF4 (fun i _ => by simp)
      rcases hr with ⟨hb, rfl⟩ | ⟨hb, rfl⟩
      · exact ⟨_, lastL L, Fa ++ Fb, 1, rfl, ⟨sv, ev, Fa, Fb, rfl, hs4, he4, rfl⟩, fun i hi => .inl (hFn i hi), .inl ⟨hb, rfl⟩⟩
      · exact ⟨_, _, Fa ++ Fb, 0, rfl, voted_rd hs4 he4, fun i hi => .inl (hFn i hi), .inr ⟨hb, rfl, rfl⟩⟩
    refine ext0 (ext1 ?_)
    refine alloc_n (n := 6) (by kernel_rfl) ?_
    intro bm w5 l5 hl5 hbm hB5 hF5 hs5
    refine store_all (n := 6) (vs := cm) hB5 szM hl5 (sKd.len hrd4) (by omega) (sKd.one hrd4) ?_
    intro w6 hB6 hF6 hs6
    have f46 : Fr [] w4 w6.drew := (hF5.trans hF6 (fun i hi => .inr (by simp at hi; omega))).t (Fr.drew [] w6)
    have f36 := hF4.t f46
    have hrd6 := sKd.fr hrd4 f46 (fun i _ => by simp)
    have hlt6 := sKd.lt hrd6
    have z34 := hF4.size
    have z03 := f03.size
    have z46 := f46.size
    have hzd : w6.drew.heap.size = w6.heap.size := rfl
    have hkt6 := hkY (bm := bm) (Fm := Fm) f36 (by omega) (by omega) (fun i hi => ⟨hFm i hi, hlt6 i hi⟩)
    have hml := sKd.len hrd4
    have em : List.take 6 (List.drop 0 cm) = cm := by rw [List.drop_zero]; exact List.take_of_length_le (by rw [hml]; exact Nat.le_refl _)
    have hS6 : St bm cm w6.drew := ⟨⟨lsv, h3.blk.fr f36 (by simp)⟩, hB6.drew, hBo3.fr f36 (by simp)⟩
    refine ⟨St bm cm, hS6, ldA_S (l := cm) (fun w' h => h.2.1) (by rw [hml]; exact Nat.le_refl _) ?_⟩
    rw [em]
    refine nilC (fad (ldC (fun w' h => hpkc h) (fad (ldC_S (fun w' h => h.2.2) rfl (fad (ldC_S (fun w' h => h.2.2) rfl ((kvote_c hkt6 hb (by omega) i3 i4).use ?_)))))))
    rintro r w7 ⟨hO, hres⟩
    obtain ⟨L', rfl, hkt7, hL'⟩ : ∃ L', r = .int .i64 e ∧ Kt w0 w7 pk pd cp (bnd + 1) (z + o.p.length + 100) L' (px :: bo :: bm :: (FL ++ Fm)) ∧ L' = (if e = 0 then (if false then [km] else L ++ [km]) else L) := by
      rcases hres with ⟨hb1, rfl, hk⟩ | ⟨hb1, rfl, hk⟩ <;> rcases hlink with ⟨hb2, rfl⟩ | ⟨hb2, rfl, rfl⟩
      · exact ⟨_, rfl, hk.up (by omega) (by omega) (by omega) hz, by simp⟩
      · exact absurd hb1 hb2
      · exact absurd hb2 hb1
      · exact ⟨_, rfl, hk.up (by omega) (by omega) (by omega) hz, by simp⟩
    refine ⟨⟨⟨lsv, hO.bk (h3.blk.fr f36 (by simp)) (.inl (by simp))⟩, hO.bk hB6.drew (.inl (by simp)), hO.bk (hBo3.fr f36 (by simp)) (.inl (by simp))⟩, ?_⟩
    exact chg bm cm km Fm e false L' w6.drew w7 f36 hB6.drew (by omega) hrd6 (hnp Fm hFm) hO hkt7 hL'
  refine eql ⟨J, fun ok w' h => h, if_p (fun hk1 => ?_) (fun hk1 => ?_)⟩
  · -- Put
    refine ldA_bk hB3 (by rw [hcl]; exact Nat.le_refl _) ?_
    rw [e6]
    refine fad (ldC_bk hBo3 rfl (fad (ldC_bk hBo3 rfl (fad (ldC_bk hBo3 rfl ?_)))))
    refine (refput_c hrd3 hwl.1 i3 hx3 (by omega)).use ?_
    rintro r w4 ⟨hF4, hr⟩
    obtain ⟨cm, km, Fm, e, rfl, hrd4, hFm, hlink⟩ : ∃ cm km Fm e, r = .tuple #[.agg (List.toArray cm), .int .i64 e] ∧ sKd.rd w4 cm km Fm ∧ (∀ i ∈ Fm, i ∈ FL ∨ w3.heap.size ≤ i) ∧ (badPut (lastL L) o.index o.term o.p.length ∧ e = 1 ∨ ¬ badPut (lastL L) o.index o.term o.p.length ∧ e = 0 ∧ km = (lastL L).put (o.index - (lastL L).base - 1).toNat o.term o.p) := by
      rcases hr with ⟨hb, rfl⟩ | ⟨hb, cs', F', rfl, hrd', hF'⟩
      · exact ⟨_, lastL L, Fl, 1, rfl, sKd.fr hrd3 hF4 (fun i _ => by simp), fun i hi => .inl (hFn i hi), .inl ⟨hb, rfl⟩⟩
      · exact ⟨_, _, F', 0, rfl, hrd', fun i hi => (hF' i hi).imp (hFn i) id, .inr ⟨hb, rfl, rfl⟩⟩
    refine ext0 (ext1 ?_)
    refine alloc_n (n := 6) (by kernel_rfl) ?_
    intro bm w5 l5 hl5 hbm hB5 hF5 hs5
    refine store_all (n := 6) (vs := cm) hB5 szM hl5 (sKd.len hrd4) (by omega) (sKd.one hrd4) ?_
    intro w6 hB6 hF6 hs6
    have f46 : Fr [] w4 w6.drew := (hF5.trans hF6 (fun i hi => .inr (by simp at hi; omega))).t (Fr.drew [] w6)
    have f36 := hF4.t f46
    have hrd6 := sKd.fr hrd4 f46 (fun i _ => by simp)
    have hlt6 := sKd.lt hrd6
    have z34 := hF4.size
    have z03 := f03.size
    have z46 := f46.size
    have hzd : w6.drew.heap.size = w6.heap.size := rfl
    have hkt6 := hkY (bm := bm) (Fm := Fm) f36 (by omega) (by omega) (fun i hi => ⟨hFm i hi, hlt6 i hi⟩)
    have hml := sKd.len hrd4
    have em : List.take 6 (List.drop 0 cm) = cm := by rw [List.drop_zero]; exact List.take_of_length_le (by rw [hml]; exact Nat.le_refl _)
    have hS6 : St bm cm w6.drew := ⟨⟨lsv, h3.blk.fr f36 (by simp)⟩, hB6.drew, hBo3.fr f36 (by simp)⟩
    refine ⟨St bm cm, hS6, ldA_S (l := cm) (fun w' h => h.2.1) (by rw [hml]; exact Nat.le_refl _) ?_⟩
    rw [em]
    refine nilC (fad (ldC (fun w' h => hpkc h) (fad (ldC_S (fun w' h => h.2.2) rfl (fad (ldC_S (fun w' h => h.2.2) rfl (fad (ldC_S (fun w' h => h.2.2) rfl ((kput_c hkt6 hb hz i3 (hx3.fr f36 (fun i _ => by simp)) (fun h0 i hi => .inr (hx0 h0 i hi)) ib).use ?_)))))))))
    rintro r w7 ⟨hO, hres⟩
    obtain ⟨L', rfl, hkt7, hL'⟩ : ∃ L', r = .int .i64 e ∧ Kt w0 w7 pk pd cp (bnd + 1) (z + o.p.length + 100) L' (px :: bo :: bm :: (FL ++ Fm)) ∧ L' = (if e = 0 then (if false then [km] else L ++ [km]) else L) := by
      rcases hres with ⟨hb1, rfl, hk⟩ | ⟨hb1, rfl, hk⟩ <;> rcases hlink with ⟨hb2, rfl⟩ | ⟨hb2, rfl, rfl⟩
      · exact ⟨_, rfl, hk, by simp⟩
      · exact absurd hb1 hb2
      · exact absurd hb2 hb1
      · exact ⟨_, rfl, hk, by simp⟩
    refine ⟨⟨⟨lsv, hO.bk (h3.blk.fr f36 (by simp)) (.inl (by simp))⟩, hO.bk hB6.drew (.inl (by simp)), hO.bk (hBo3.fr f36 (by simp)) (.inl (by simp))⟩, ?_⟩
    exact chg bm cm km Fm e false L' w6.drew w7 f36 hB6.drew (by omega) hrd6 (hnp Fm hFm) hO hkt7 hL'
  refine eql ⟨J, fun ok w' h => h, if_p (fun hk2 => ?_) (fun hk2 => ?_)⟩
  · -- Reset
    refine ldA_bk hB3 (by rw [hcl]; exact Nat.le_refl _) ?_
    rw [e6]
    refine fad (ldC_bk hBo3 rfl (fad (ldC_bk hBo3 rfl (fad (ldC_bk hBo3 rfl ?_)))))
    refine (refreset_c hrd3 hwl.1 i2 i3 hx3 (by omega)).use ?_
    rintro r w4 ⟨hF4, hr⟩
    obtain ⟨cm, km, Fm, e, rfl, hrd4, hFm, hlink⟩ : ∃ cm km Fm e, r = .tuple #[.agg (List.toArray cm), .int .i64 e] ∧ sKd.rd w4 cm km Fm ∧ (∀ i ∈ Fm, i ∈ FL ∨ w3.heap.size ≤ i) ∧
        (badReset (lastL L) o.index o.term ∧ e = 1 ∨ ¬ badReset (lastL L) o.index o.term ∧ 262144 < o.p.length ∧ e = 3 ∨ ¬ badReset (lastL L) o.index o.term ∧ o.p.length ≤ 262144 ∧ e = 0 ∧ km = (lastL L).reset o.index o.term o.p) := by
      rcases hr with ⟨hb, rfl⟩ | ⟨hb, hl, rfl⟩ | ⟨hb, hl, cs', F', rfl, hrd', hF'⟩
      · exact ⟨_, lastL L, Fl, 1, rfl, sKd.fr hrd3 hF4 (fun i _ => by simp), fun i hi => .inl (hFn i hi), .inl ⟨hb, rfl⟩⟩
      · exact ⟨_, lastL L, Fl, 3, rfl, sKd.fr hrd3 hF4 (fun i _ => by simp), fun i hi => .inl (hFn i hi), .inr (.inl ⟨hb, hl, rfl⟩)⟩
      · exact ⟨_, _, F', 0, rfl, hrd', fun i hi => (hF' i hi).imp (hFn i) id, .inr (.inr ⟨hb, hl, rfl, rfl⟩)⟩
    refine ext0 (ext1 ?_)
    refine alloc_n (n := 6) (by kernel_rfl) ?_
    intro bm w5 l5 hl5 hbm hB5 hF5 hs5
    refine store_all (n := 6) (vs := cm) hB5 szM hl5 (sKd.len hrd4) (by omega) (sKd.one hrd4) ?_
    intro w6 hB6 hF6 hs6
    have f46 : Fr [] w4 w6.drew := (hF5.trans hF6 (fun i hi => .inr (by simp at hi; omega))).t (Fr.drew [] w6)
    have f36 := hF4.t f46
    have hrd6 := sKd.fr hrd4 f46 (fun i _ => by simp)
    have hlt6 := sKd.lt hrd6
    have z34 := hF4.size
    have z03 := f03.size
    have z46 := f46.size
    have hzd : w6.drew.heap.size = w6.heap.size := rfl
    have hkt6 := hkY (bm := bm) (Fm := Fm) f36 (by omega) (by omega) (fun i hi => ⟨hFm i hi, hlt6 i hi⟩)
    have hml := sKd.len hrd4
    have em : List.take 6 (List.drop 0 cm) = cm := by rw [List.drop_zero]; exact List.take_of_length_le (by rw [hml]; exact Nat.le_refl _)
    have hS6 : St bm cm w6.drew := ⟨⟨lsv, h3.blk.fr f36 (by simp)⟩, hB6.drew, hBo3.fr f36 (by simp)⟩
    refine ⟨St bm cm, hS6, ldA_S (l := cm) (fun w' h => h.2.1) (by rw [hml]; exact Nat.le_refl _) ?_⟩
    rw [em]
    refine nilC (fad (ldC (fun w' h => hpkc h) (fad (ldC_S (fun w' h => h.2.2) rfl (fad (ldC_S (fun w' h => h.2.2) rfl (fad (ldC_S (fun w' h => h.2.2) rfl ((kreset_c hkt6 hb hz i2 i3 (hx3.fr f36 (fun i _ => by simp)) ib).use ?_)))))))))
    rintro r w7 ⟨hO, hres⟩
    obtain ⟨L', rfl, hkt7, hL'⟩ : ∃ L', r = .int .i64 e ∧ Kt w0 w7 pk pd cp (bnd + 1) (z + o.p.length + 100) L' (px :: bo :: bm :: (FL ++ Fm)) ∧ L' = (if e = 0 then (if true then [km] else L ++ [km]) else L) := by
      rcases hres with ⟨hb1, rfl, hk⟩ | ⟨hb1, hl1, rfl, hk⟩ | ⟨hb1, hl1, rfl, hk⟩ <;> rcases hlink with ⟨hb2, rfl⟩ | ⟨hb2, hl2, rfl⟩ | ⟨hb2, hl2, rfl, rfl⟩
      · exact ⟨_, rfl, hk, by simp⟩
      · exact absurd hb1 hb2
      · exact absurd hb1 hb2
      · exact absurd hb2 hb1
      · exact ⟨_, rfl, hk, by simp⟩
      · omega
      · exact absurd hb2 hb1
      · omega
      · exact ⟨_, rfl, hk, by simp⟩
    refine ⟨⟨⟨lsv, hO.bk (h3.blk.fr f36 (by simp)) (.inl (by simp))⟩, hO.bk hB6.drew (.inl (by simp)), hO.bk (hBo3.fr f36 (by simp)) (.inl (by simp))⟩, ?_⟩
    exact chg bm cm km Fm e true L' w6.drew w7 f36 hB6.drew (by omega) hrd6 (hnp Fm hFm) hO hkt7 hL'
  refine eql ⟨J, fun ok w' h => h, if_p (fun hk3 => ?_) (fun hk3 => ?_)⟩
  · -- Sync
    refine nilC (fad (ldC_bk h3.blk rfl ((ksync_c h3.kt).use ?_)))
    rintro _ w4 ⟨hO, rfl, hkt4⟩
    have hB4 := hO.bk h3.blk (.inl (by simp))
    have hls4 := hO.rd h3.lst (fun b hb => .inl (by simp [hb]))
    have hd4 := Fr.drew [] w4
    have hB4d := hB4.drew
    have hls4d := sKds.fr hls4 hd4 (fun i _ => by simp)
    obtain ⟨cells4, G4, hcap4, hsl4, hrows4, hGF4, hFe4⟩ := list_open hls4d
    refine eql ⟨fun w' => Bk w' px 60 (dCells pd pk lsv), hB4d, ?_⟩
    refine nilC (fad (ldC_S (fun w' h => h) rfl (nilC (fad (ldC_S (fun w' h => h) rfl (hsl4.lenV (sub64 (by omega) ?_)))))))
    rw [show (L.length : Int) - 1 = ((L.length - 1 : Nat) : Int) by omega]
    refine slcLo hsl4 hcap4 (by omega) ?_
    intro v5 hs5 hc5 hf5
    have hct := sl_len hsl4
    have h6 : sKd.size = 6 := rfl
    rw [h6] at hct
    have etk : List.take ((L.length - (L.length - 1)) * 6) (List.drop ((L.length - 1) * 6) cells4) = List.drop ((L.length - 1) * 6) cells4 := by
      exact List.take_of_length_le (by rw [List.length_drop, hct, ← Nat.sub_mul]; exact Nat.le_refl _)
    rw [etk] at hs5
    obtain ⟨F', hrd5, hF'⟩ := kds_last hc5 hrows4 hne hs5 hf5 hFe4
    refine nilC (fad (store' hB4d (by kernel_rfl) (by simp [dCells]) (sKds.one hrd5 _ (by simp)) ?_))
    intro w6 hB6 hF6 hs6
    refine ⟨by simp, [lastL L], pd, pk, v5, F', ⟨by simpa [dCells] using hB6, ?_, sKds.fr hrd5 hF6 (fun i hi hm => by simp at hm; subst hm; exact h.nx (hF' _ hi)), h.new, fun hm => h.nx (hF' _ hm)⟩⟩
    exact ((hkt4.step hd4 (Y2 := px :: FL) (fun i hi => .inl hi)).mix hF6 (Y2 := px :: F') (fun i hi => by simp at hi; subst hi; exact ⟨by simp, h.new⟩) (fun i hi => by
      rcases List.mem_cons.1 hi with rfl | hi
      · exact .inl (by simp)
      · exact .inl (by simp [hF' i hi]))).up (by omega) (by omega) (by omega) hz
  refine eql ⟨J, fun ok w' h => h, if_p (fun hk4 => ?_) (fun hk4 => ?_)⟩
  · -- a crash
    refine fad (ldC_bk hBo3 rfl (max2 ?_))
    obtain ⟨kp, hkp⟩ : ∃ kp : Nat, (if o.vote < 0 then 0 else o.vote) = (kp : Int) := ⟨(if o.vote < 0 then 0 else o.vote).toNat, by split <;> omega⟩
    rw [hkp]
    have hDk : Dk16 w0 w3 px cp bnd z L := ⟨pd, pk, lsv, FL, h3⟩
    refine (kdcrash_c kp hDk hb).use ?_
    rintro _ w4 ⟨rfl, j, hj, _, h4⟩
    exact ⟨rfl, _, h4.up (by omega) (by omega) (by omega) hz⟩
  · have hDk : Dk16 w0 w3 px cp bnd z L := ⟨pd, pk, lsv, FL, h3⟩
    exact ⟨rfl, _, hDk.up (by omega) (by omega) (by omega) hz⟩
end Go.Proofs.Ytmlaconjeplhpaa

set_option linter.unusedVariables false
set_option linter.unusedSimpArgs false
set_option maxRecDepth 20000
namespace Go.Proofs.Ytmlaconjeplhpaa
open Go Go.Vc
open St (Dsk All64 Blk pad four put4 halfN base hb walk eldest rootF openF putF rootL SInv encAll encRec)

theorem cr_new {w w1 : World} {pd bb n cp : Nat} {Y : List Nat} (hd : Dk w1 pd bb (.slice none 0 0) (newD n)) (hF : Fr [] w w1) (hp : w.heap.size ≤ pd) (hbb : w.heap.size ≤ bb) (hn : 4 ≤ n ∧ n ≤ 65536) (hc : 200 ≤ cp ∧ cp ≤ 500000 ∧ cp ≤ (n - 2) / 2 * 55) (hy : ∀ i ∈ Y, i < w1.heap.size) (hy1 : pd ∉ Y) (hy2 : bb ∉ Y) :
    Cr w w1 pd cp 1 200 KD.new Y := by
  obtain ⟨at', tail, hop, hinv⟩ := St.sinv_new (n := n) (bnd := 1) hn (by omega)
  have hh : halfN (List.replicate n (List.replicate 64 0)) = (n - 2) / 2 := by unfold halfN; rw [List.length_replicate]
  refine ⟨bb, List.replicate n (List.replicate 64 0), 1, _, at', tail, false, [], [], KD.new, [], hF, hd, hop, hinv, .inr ⟨rfl, rfl, rfl⟩, trivial, rfl, fun k hk => by rw [List.mem_singleton.1 hk]; exact ⟨WfK.new, by simp [ksz, KD.new]⟩, by simp [took], hc.1, hc.2.1, by rw [hh]; exact hc.2.2, hp, hbb, hy1, hy2, hy, by omega, by simp⟩
theorem kawake_c {w : World} : CallF Try.prog 33 #[] w fun r w' => r = .bool true ∧ Fr [] w w' := by
  refine C_furlonglaw16_awake_link ?_
  unfold C_furlonglaw16_awake
  refine (dnew_c (n := 4000) (by omega) (by omega)).use ?_
  rintro r w1 ⟨pd, bb, rfl, hd1, hF1, hpd, hbb⟩
  refine ext0 (ext1 ?_)
  refine (kopen2_c (cr_new (cp := 100000) (Y := []) hd1 hF1 hpd hbb (by omega) (by omega) (by simp) (by simp) (by simp))).use ?_
  rintro r w2 ⟨_, pk, rfl, hpk, h2⟩
  refine ext0 (ext1 (neq (gdT rfl rfl (gdT rfl (neq rfl) (pick_f rfl ?_)))))
  refine gdT rfl rfl (gT rfl ((kvote_c h2 (by omega) (by omega) (t := 1) (v := 0) (by unfold I64; omega) (by unfold I64; omega)).use ?_))
  rintro r w3 ⟨_, ⟨hb, _⟩ | ⟨_, rfl, h3⟩⟩
  · exfalso; revert hb; simp [badVote, lastL, KD.new]
  have l3 : lastL ([KD.new] ++ [(lastL [KD.new]).voted 1 0]) = ⟨1, 0, 0, 0, [], []⟩ := rfl
  refine gdT rfl (neq rfl) (pick_f rfl (gdT rfl rfl (gT rfl (litB ?_))))
  intro b5 w5 hb5 hB5 hF5 hs5
  have h5 := h3.step hF5 (Y2 := [b5]) (fun i hi => .inr (by simp at hi; omega))
  refine gT rfl ((kput_c h5 (d := [5]) (i := 1) (t := 1) (by omega) (by simp) (by unfold I64; omega) (hB5.sl rfl 1) (fun _ i hi => .inl (by simpa [fp_some] using hi)) (by simp)).use ?_)
  rintro r w6 ⟨_, ⟨hb, _⟩ | ⟨_, rfl, h6⟩⟩
  · exfalso; revert hb; rw [l3]; simp [badPut]
  rw [l3] at h6
  refine gdT rfl (neq rfl) (pick_f rfl (gdT rfl rfl (gT rfl (litB ?_))))
  intro b7 w7 hb7 hB7 hF7 hs7
  have h7 := h6.step hF7 (Y2 := [b7]) (fun i hi => .inr (by simp at hi; omega))
  have l7 : ∀ L : List KD, lastL (L ++ [KD.put ⟨1, 0, 0, 0, [], []⟩ ((1 : Int) - 0 - 1).toNat 1 [5]]) = ⟨1, 0, 0, 0, [], [(1, [5])]⟩ := fun L => lastL_snoc _ _
  refine gT rfl ((kput_c h7 (d := [6]) (i := 2) (t := 1) (by omega) (by simp) (by unfold I64; omega) (hB7.sl rfl 1) (fun _ i hi => .inl (by simpa [fp_some] using hi)) (by simp)).use ?_)
  rintro r w8 ⟨_, ⟨hb, _⟩ | ⟨_, rfl, h8⟩⟩
  · exfalso; revert hb; rw [l7]; simp [badPut]
  rw [l7] at h8
  refine gdT rfl (neq rfl) (pick_f rfl (gdT rfl rfl (gT rfl ((ksync_c h8).use ?_))))
  rintro _ w9 ⟨_, rfl, h9⟩
  rw [lastL_snoc] at h9
  have e9 : KD.put ⟨1, 0, 0, 0, [], [(1, [5])]⟩ ((2 : Int) - 0 - 1).toNat 1 [6] = ⟨1, 0, 0, 0, [], [(1, [5]), (1, [6])]⟩ := rfl
  rw [e9] at h9
  refine gdT rfl (neq rfl) (pick_f rfl (gdT rfl rfl (gT rfl (litB ?_))))
  intro b10 w10 hb10 hB10 hF10 hs10
  have h10 := h9.step hF10 (Y2 := [b10]) (fun i hi => .inr (by simp at hi; omega))
  refine gT rfl ((kput_c h10 (d := [7]) (i := 2) (t := 2) (by omega) (by simp) (by unfold I64; omega) (hB10.sl rfl 1) (fun _ i hi => .inl (by simpa [fp_some] using hi)) (by simp)).use ?_)
  rintro r w11 ⟨_, ⟨hb, _⟩ | ⟨_, rfl, h11⟩⟩
  · exfalso; revert hb; rw [lastL_one]; simp [badPut]
  refine gdT rfl (neq rfl) (pick_f rfl (gdT rfl rfl (gT rfl ((kcrash_c h11 (by omega) 0).use ?_))))
  rintro _ w12 ⟨_, rfl, j, hj, hj0, h12⟩
  obtain rfl := hj0 rfl
  have h12' : Cr w w12 pd 100000 (1 + 1 + 1 + 1 + 1 + 1) _ ⟨1, 0, 0, 0, [], [(1, [5]), (1, [6])]⟩ [b10] := h12
  refine gdT rfl (neq rfl) (pick_f rfl (if_f rfl ((kopen2_c h12').use ?_)))
  rintro r w13 ⟨_, pk2, rfl, hpk2, h13⟩
  refine ext0 (ext1 ?_)
  obtain ⟨ps, sv, ev, F1, F2, hkp⟩ := h13.kp
  rw [lastL_one] at hkp
  refine (entry_in hkp (i := 2) (j := 1) (by simp) (by simp) (by simp) (by simp) (by simp)).use ?_
  rintro r w14 ⟨v, rfl, hN14⟩
  refine ext0 (ext1 (ext2 ?_))
  refine eql (gdT rfl rfl (gdT rfl (eql rfl) (pick_t rfl (gdT rfl rfl (gdT rfl (eql rfl) (pick_t rfl (gdT rfl rfl (gT rfl (litB ?_)))))))))
  intro b15 w15 hb15 hB15 hF15 hs15
  refine gT rfl ((bytes_c (a := [6]) (b := [6]) (hN14.own.sl.fr hF15 (fun i _ => by simp)) (by simp) (hB15.sl rfl 1) (by simp)).use ?_)
  rintro _ w16 ⟨rfl, hw16⟩
  rw [hw16]
  have f1315 := hN14.fr.t hF15
  have hkp15 := hkp.fresh f1315
  obtain ⟨cells, G, hcap, hsl, hrows, hGF, _⟩ := list_open hkp15.ent
  refine pick_t rfl (gdT rfl rfl (gT rfl ((last_c hkp15.blk hsl (by simp) (by simp)).use ?_)))
  rintro _ w17 ⟨rfl, hw17⟩
  have f1517 : Fr [] w15 w17 := by rw [hw17]; exact Fr.drew [] _
  have hkp17 := hkp15.fresh f1517
  refine gdT rfl (eql rfl) (pick_t rfl (gdT rfl rfl (gT rfl ((term_c hkp17).use ?_))))
  rintro _ w18 ⟨rfl, hw18⟩
  rw [hw18]
  refine gdT rfl (eql rfl) (pick_t rfl (gdT rfl rfl (gT rfl ((voted_c hkp17).use ?_))))
  rintro _ w19 ⟨rfl, hw19⟩
  rw [hw19]
  refine gdT rfl (eql rfl) (pick_t rfl ⟨rfl, ?_⟩)
  exact (h13.frn.t f1315).t f1517
theorem kbegin_c {w : World} : CallF Try.prog 34 #[] w fun r w' => ∃ cells, r = .tuple #[.agg (List.toArray cells), .bool true] ∧ cells.length = 3 ∧ (∀ v ∈ cells, v.oneCell' = true) ∧ Fr [] w w' ∧
    ∀ px w2, Fr [] w' w2 → w'.heap.size ≤ px → Bk w2 px 60 cells → Dk16 w w2 px 500000 1 200 [KD.new] := by
  refine C_furlonglaw16_begin_link ?_
  unfold C_furlonglaw16_begin
  refine alloc_n (n := 3) (by kernel_rfl) ?_
  intro bt w1 l1 hl1 hbt hB1 hF1 hs1
  refine (dnew_c (n := 65536) (by omega) (by omega)).use ?_
  rintro r w2 ⟨pd, bb, rfl, hd2, hF2, hpd, hbb⟩
  refine ext0 (ext1 ?_)
  have z1 := hF1.size
  have z2 := hF2.size
  refine (kopen2_c (cr_new (cp := 500000) (Y := [bt]) hd2 (hF1.t hF2) (by omega) (by omega) (by omega) (by omega) (by simp; omega) (by simp; omega) (by simp; omega))).use ?_
  rintro r w3 ⟨hO3, pk, rfl, hpk, h3⟩
  refine ext0 (ext1 (neq (gdT rfl rfl (gdT rfl (neq rfl) (pick_f rfl (gdT rfl rfl (gdT rfl (ptr_eql und57 rfl) (pick_f rfl (if_f rfl ?_)))))))))
  have hB3 := hO3.bk (hB1.fr hF2 (by simp)) (.inl (by simp))
  obtain ⟨ps, sv, ev, F1, F2, hkp⟩ := h3.kp
  rw [lastL_one] at hkp
  refine (now_c hkp WfK.new).use ?_
  rintro r w4 ⟨hF4, cm, Fm, rfl, hm4, hmn⟩
  refine ext0 (ext1 ?_)
  refine alloc_n (n := 6) (by kernel_rfl) ?_
  intro bm w5 l5 hl5 hbm hB5 hF5 hs5
  refine store_all (n := 6) (vs := cm) hB5 szM hl5 (sKd.len hm4) (by omega) (sKd.one hm4) ?_
  intro w6 hB6 hF6 hs6
  have f46 : Fr [] w4 w6.drew := (hF5.trans hF6 (fun i hi => .inr (by simp at hi; omega))).t (Fr.drew [] w6)
  have f36 := hF4.t f46
  have hm6 := sKd.fr hm4 f46 (fun i _ => by simp)
  have hml := sKd.len hm6
  have em : List.take 6 (List.drop 0 cm) = cm := by rw [List.drop_zero]; exact List.take_of_length_le (by rw [hml]; exact Nat.le_refl _)
  have h6 := h3.step f36 (Y2 := [bt]) (fun i hi => .inl hi)
  have hBt6 := hB3.fr f36 (by simp)
  have hbtl := h3.ylt bt (by simp)
  have z3 := hO3.size
  have z36 := f36.size
  have z4 := hF4.size
  have zd6 : w6.drew.heap.size = w6.heap.size := rfl
  have hfw := h6.frn
  have zfw := hfw.size
  let S : World → Prop := fun w' => Bk w' bm 67 cm
  let ns : List Value := [.int .i64 0, .int .i64 (-1), .int .i64 0, .int .i64 0, .slice none 0 0, .slice none 0 0]
  have hns : ∀ w', sKd.rd w' ns KD.new [] := fun w' => ⟨.slice none 0 0, .slice none 0 0, [], [], rfl, ⟨.slice none 0 0, rfl, Nat.le_refl _, ⟨none, 0, rfl, rfl, fun _ => ⟨rfl, rfl⟩, fun a ha => by cases ha⟩, rfl⟩, ⟨.slice none 0 0, [], [], rfl, Nat.le_refl _, ⟨none, 0, rfl, rfl, fun _ => ⟨rfl, rfl⟩, fun a ha => by cases ha⟩, ⟨rfl, rfl⟩, rfl⟩, rfl⟩
  -- what is handed back
  let J : Value → World → Prop := fun t w' => t = .bool true ∧ ∃ b, Bk w' bt 60 (dCells pd pk (.slice (some ⟨b, 0, none⟩) 1 1)) ∧ Bk w' b 67 ns ∧ b ≠ bt ∧ Kt w w' pk pd 500000 1 200 [KD.new] [bt, b]
  refine ⟨J, ?_, S, hB6.drew, ?_⟩
  · rintro _ w7 ⟨rfl, b, hBt7, hBb7, hbb', hk7⟩
    have hlb := hBb7.lt
    refine ldA_bk hBt7 (by simp [dCells]) ⟨_, rfl, rfl, ?_, hk7.frn, ?_⟩
    · simp [dCells, ptr, Value.oneCell']
    · intro px w8 hF8 hpx hB8
      have hk8 := hk7.step hF8 (Y2 := px :: [b]) (fun i hi => by
        have := hB8.lt
        rcases List.mem_cons.1 hi with rfl | hi
        · exact .inr (by omega)
        · exact .inl (by simp at hi; simp [hi]))
      have hone := kds_one (hBb7.fr hF8 (by simp)) (hns w8)
      refine ⟨pd, pk, _, [b], by simpa [dCells] using hB8, hk8, hone, by have := hk7.frn.size; omega, by simp; omega⟩
  -- the orders
  have fin : ∀ (b : Nat) (wa wb wc : World), Fr [] w6.drew wa → wa.heap.size = b → Bk wb b 67 ns → Fr [] wa wb → Fr [bt] wb wc → Bk wc bt 60 (dCells pd pk (.slice (some ⟨b, 0, none⟩) 1 1)) → S wc ∧ J (.bool true) wc := by
    intro b wa wb wc fa hb hBb fb fc hBc
    have hlb := hBb.lt
    have za := fa.size
    have hbt' : b ≠ bt := by omega
    have hka := h6.step fa (Y2 := [bt]) (fun i hi => .inl hi)
    have hkb := hka.step fb (Y2 := [bt, b]) (fun i hi => by
      simp at hi
      rcases hi with rfl | rfl
      · exact .inl (by simp)
      · exact .inr (by omega))
    refine ⟨((show Bk w6.drew bm 67 cm from hB6.drew).fr (fa.t fb) (by simp)).fr fc (by simp; omega), rfl, b, hBc, hBb.fr fc (by simpa using hbt'), hbt', hkb.touch fc (fun i hi => by simp at hi; subst hi; exact ⟨by simp, by omega⟩)⟩
  have hSf : ∀ {w'}, Fr [] w6.drew w' → S w' := fun f => (show Bk w6.drew bm 67 cm from hB6.drew).fr f (by simp)
  refine refnew_c.use ?_
  rintro _ w7 ⟨rfl, hF7⟩
  refine ⟨hSf hF7, gdT rfl (ldA_S (l := cm) (fun w' h => h) (by rw [hml]; exact Nat.le_refl _) rfl) ⟨?_, ?_⟩⟩
  · refine lit1 Try.underlying58 infoM (by decide) (cs := ns) rfl rfl ?_
    intro b w8 hb8 hB8 hF8 hs8
    have f68 := hF7.t hF8
    refine ⟨hSf f68, ⟨dCells pd pk (.slice (some ⟨b, 0, none⟩) 1 1), by kernel_rfl, by kernel_rfl, gT rfl (refnew_c.use ?_)⟩⟩
    rintro _ w9 ⟨rfl, hF9⟩
    have f69 := f68.t hF9
    refine ⟨hSf f69, gT rfl ?_⟩
    rw [em]
    refine (same_c (sKd.fr hm6 f69 (fun i _ => by simp)) (hns w9) WfK.new WfK.new).use ?_
    rintro _ w10 ⟨hF10, c, rfl, hc⟩
    have f610 := f69.t hF10
    refine pick_t rfl ?_
    refine store_all (n := 3) (vs := dCells pd pk (.slice (some ⟨b, 0, none⟩) 1 1)) (hBt6.fr f610 (by simp)) (by kernel_rfl) hl1 rfl (by omega) (by simp [dCells, ptr, Value.oneCell']) ?_
    intro w11 hB11 hF11 hs11
    rw [hc.2 rfl]
    exact fin b w7 w10 w11 hF7 hb8 ((hB8.fr hF9 (by simp)).fr hF10 (by simp)) ((hF8.t hF9).t hF10) hF11 hB11
  · refine gT rfl (refnew_c.use ?_)
    rintro _ w8 ⟨rfl, hF8⟩
    have f68 := hF7.t hF8
    refine ⟨hSf f68, ?_, ?_⟩
    · refine lit1 Try.underlying58 infoM (by decide) (cs := ns) rfl rfl ?_
      intro b w9 hb9 hB9 hF9 hs9
      have f69 := f68.t hF9
      refine ⟨hSf f69, ⟨dCells pd pk (.slice (some ⟨b, 0, none⟩) 1 1), by kernel_rfl, by kernel_rfl, gT rfl ?_⟩⟩
      rw [em]
      refine (same_c (sKd.fr hm6 f69 (fun i _ => by simp)) (hns w9) WfK.new WfK.new).use ?_
      rintro _ w10 ⟨hF10, c, rfl, hc⟩
      have f610 := f69.t hF10
      refine pick_t rfl ?_
      refine store_all (n := 3) (vs := dCells pd pk (.slice (some ⟨b, 0, none⟩) 1 1)) (hBt6.fr f610 (by simp)) (by kernel_rfl) hl1 rfl (by omega) (by simp [dCells, ptr, Value.oneCell']) ?_
      intro w11 hB11 hF11 hs11
      rw [hc.2 rfl]
      exact fin b w8 w10 w11 f68 hb9 (hB9.fr hF10 (by simp)) (hF9.t hF10) hF11 hB11
    · refine gT rfl ?_
      rw [em]
      refine (same_c (sKd.fr hm6 f68 (fun i _ => by simp)) (hns w8) WfK.new WfK.new).use ?_
      rintro _ w10 ⟨hF10, c, rfl, hc⟩
      have f610 := f68.t hF10
      refine pick_t rfl ?_
      refine lit1 Try.underlying58 infoM (by decide) (cs := ns) rfl rfl ?_
      intro b w9 hb9 hB9 hF9 hs9
      have f69 := f610.t hF9
      refine ⟨hSf f69, ⟨dCells pd pk (.slice (some ⟨b, 0, none⟩) 1 1), by kernel_rfl, by kernel_rfl, ?_⟩⟩
      refine store_all (n := 3) (vs := dCells pd pk (.slice (some ⟨b, 0, none⟩) 1 1)) (hBt6.fr f69 (by simp)) (by kernel_rfl) hl1 rfl (by omega) (by simp [dCells, ptr, Value.oneCell']) ?_
      intro w11 hB11 hF11 hs11
      rw [hc.2 rfl]
      exact fin b w10 w9 w11 f610 hb9 hB9 hF9 hF11 hB11
end Go.Proofs.Ytmlaconjeplhpaa

set_option linter.unusedVariables false
set_option linter.unusedSimpArgs false
set_option maxRecDepth 20000
namespace Go.Proofs.Ytmlaconjeplhpaa
open Go Go.Vc

abbrev kOp : Shape (Int × Int × Int × Int × List Nat) := sInt.seq (sInt.seq (sInt.seq (sInt.seq aBytes)))
abbrev kOps : Shape (List (Int × Int × Int × Int × List Nat)) := kOp.list (by decide)
def opOf (o : Int × Int × Int × Int × List Nat) : OpD := ⟨o.1, o.2.1, o.2.2.1, o.2.2.2.1, o.2.2.2.2⟩
theorem of_kOp {w : World} {cs : List Value} {o : Int × Int × Int × Int × List Nat} {F : List Nat} (h : kOp.rd w cs o F) : ∃ x F', cs = oCells (opOf o) x ∧ sSl.rd w [x] (opOf o).p F' ∧ okOp (opOf o) := by
  obtain ⟨_, _, _, _, rfl, rfl, ⟨rfl, rfl, i1⟩, _, _, _, _, rfl, rfl, ⟨rfl, rfl, i2⟩, _, _, _, _, rfl, rfl, ⟨rfl, rfl, i3⟩, _, _, _, _, rfl, rfl, ⟨rfl, rfl, i4⟩, h3⟩ := h
  obtain ⟨x, F', rfl, h4, h5⟩ := of_aBytes h3
  exact ⟨x, F', rfl, h4, i1, i2, i3, i4, h5⟩
theorem kholds_c {w : World} {x : Value} {ops : List (Int × Int × Int × Int × List Nat)} {F : List Nat} (hx : kOps.rd w [x] ops F) (hl : ∀ o ∈ ops, o.2.2.2.2.length ≤ 1000000000) :
    CallF Try.prog 9 #[x] w fun r w' => r = .bool true ∧ Fr [] w w' := by
  refine C_furlonglaw16_KeepHolds_link ?_
  unfold C_furlonglaw16_KeepHolds
  refine kawake_c.use ?_
  rintro _ w1 ⟨rfl, hF1⟩
  refine notB (if_f rfl ?_)
  refine kbegin_c.use ?_
  rintro r w2 ⟨cells, rfl, hcl, hco, hF2, hks⟩
  refine ext0 (ext1 ?_)
  refine alloc_n (n := 3) (by kernel_rfl) ?_
  intro px w3 l3 hl3 hpx hB3 hF3 _
  refine store_all (n := 3) (vs := cells) hB3 (by kernel_rfl) hl3 hcl (by omega) hco ?_
  intro w4 hB4 hF4 _
  have hk4 : Dk16 w1 w4 px 500000 1 200 [KD.new] := hks px w4 (hF3.trans hF4 (fun i hi => .inr (by simp at hi; omega))) (by omega) hB4
  refine notB (if_f rfl ?_)
  obtain ⟨oc, Go', hcap, hsl, hrows, _⟩ := list_open (kOps.fr hx hF1 (fun i _ => by simp))
  refine hsl.lenV ?_
  refine ⟨fun _ _ _ w' => ∃ L, Dk16 w1 w' px 500000 150 400000 L, ?_, ?_⟩
  · rintro _ _ _ w5 ⟨L, h5⟩
    refine (kdcrash_c 0 h5 (by omega)).use ?_
    rintro _ w6 ⟨rfl, j6, _, _, h6⟩
    refine gT rfl ((kdcrash_c 3 h6 (by omega)).use ?_)
    rintro _ w7 ⟨rfl, j7, _, _, h7⟩
    exact pick_t rfl ⟨rfl, hF1.t h7.frn⟩
  refine ⟨fun m _ s t w' => ∃ (j s' : Nat) (L : List KD), j + m = ops.length ∧ t = .int .i64 j ∧ s = .int .i64 s' ∧ j ≤ 120 ∧ s' ≤ 290000 ∧ Dk16 w1 w' px 500000 (1 + j) (200 + s' + 100 * j) L, ops.length, ⟨0, 0, [KD.new], by omega, rfl, rfl, by omega, by omega, hk4⟩, ?_⟩
  rintro m _ _ _ w5 ⟨j, s, L, hj, rfl, rfl, hj1, hs1, h5⟩
  refine lss (if_p (fun hlt => ?_) (fun hge => ⟨L, h5.up (by omega) (by omega) (by omega) (by omega)⟩))
  have hjl : j < ops.length := by omega
  refine ixN (hsl.fr h5.frn (fun i _ => by simp)) hjl ?_
  obtain ⟨Gj, hrd, _⟩ := rows_get kOp hrows j hjl
  obtain ⟨pv, Fp, hcs, hpv, hok⟩ := of_kOp hrd
  have h5z : kOp.size = 5 := rfl
  rw [h5z] at hcs
  have hcs' : List.take 5 (List.drop (j * 5) oc) = oCells (opOf ops[j]) pv := hcs
  rw [hcs']
  refine alloc_n (n := 5) (by kernel_rfl) ?_
  intro bo w6 l6 hl6 hbo hB6 hF6 _
  refine store_all (n := 5) (vs := oCells (opOf ops[j]) pv) hB6 (by kernel_rfl) hl6 rfl (by omega) (fun v hv => by
    simp only [oCells, List.mem_cons, List.not_mem_nil, or_false] at hv
    rcases hv with rfl | rfl | rfl | rfl | rfl
    · rfl
    · rfl
    · rfl
    · rfl
    · exact sSl.one hpv _ (by simp)) ?_
  intro w7 hB7 hF7 _
  have h7 := h5.fresh (hF6.trans hF7 (fun i hi => .inr (by simp at hi; omega)))
  obtain ⟨hps, hpxx⟩ := sSl_sl hpv
  have hpl : (opOf ops[j]).p.length ≤ 1000000000 := hl _ (List.getElem_mem hjl)
  obtain ⟨n, hn⟩ : ∃ n, (opOf ops[j]).p.length = n := ⟨_, rfl⟩
  refine fad (ldC_bk hB7 rfl (hps.lenV (min2 ?_)))
  rw [hn]
  obtain ⟨q, hq, hq2⟩ : ∃ q : Nat, (if (300000 : Int) < (n : Int) then (300000 : Int) else (n : Int)) = (q : Int) ∧ (q = n ∨ q = 300000) := by
    by_cases c : (300000 : Int) < (n : Int)
    · exact ⟨300000, by rw [if_pos c]; rfl, .inr rfl⟩
    · exact ⟨n, by rw [if_neg c], .inl rfl⟩
  rw [hq]
  refine add64 (by omega) (geq ?_)
  by_cases hbig : 120 ≤ j
  · have e1 : decide ((120 : Int) ≤ (j : Int)) = true := by simp; omega
    rw [e1]
    exact gdF rfl (gdF rfl (pick_t rfl (if_t rfl ⟨L, h7.up (by omega) (by omega) (by omega) (by omega)⟩)))
  · have e1 : decide ((120 : Int) ≤ (j : Int)) = false := by simp; omega
    rw [e1]
    refine gdT rfl rfl (gdT rfl (gtr rfl) (pick_f rfl (if_p (fun _ => ⟨L, h7.up (by omega) (by omega) (by omega) (by omega)⟩) (fun hsum => ?_))))
    have hqn : q = n := by omega
    have hcl5 : (oCells (opOf ops[j]) pv).length = 5 := rfl
    refine ldA_bk hB7 (Nat.le_refl _) ?_
    have e5 : List.take 5 (List.drop 0 (oCells (opOf ops[j]) pv)) = oCells (opOf ops[j]) pv := rfl
    rw [e5]
    refine (kddo_c h7 (by omega) hok hpv (by omega)).use ?_
    rintro _ w8 ⟨rfl, L', h8⟩
    refine notB (if_f rfl (add64 (by omega) ⟨m - 1, by omega, j + 1, s + q, L', by omega, by congr 1, by congr 1, by omega, by omega, ?_⟩))
    exact h8.up (by omega) (by omega) (by omega) (by omega)
end Go.Proofs.Ytmlaconjeplhpaa
