/- The desk: a store on its disk, and what it must hold. Its method append. -/
import Derived.Test.YtmlaconjeplhpaaStoreG
set_option linter.unusedVariables false
set_option linter.unusedSimpArgs false
set_option maxRecDepth 20000
namespace Go.Proofs.Ytmlaconjeplhpaa
open Go Go.Vc
open St (Dsk All64 Blk pad four put4 halfN base hb walk eldest rootF openF putF rootL SInv encAll encRec)

theorem bnd_up {b x : Nat} (h : x ≤ b * 200000 + 100000) : x ≤ (b + 1) * 200000 := by omega
theorem infoS : (Try.prog.info? 24).map (fun i => (i.zero, i.size, i.bytes)) = some (some (.slice none 0 0), 1, 24) := by kernel_rfl
theorem Sk.lt {w : World} {ps pd bb : Nat} {lv tv : Value} {D : Dsk} {gen life at' count safe : Nat} {tail : List Nat} (h : Sk w ps pd bb lv tv D gen life at' count safe tail) : ∀ i ∈ skX ps pd bb lv tv, i < w.heap.size := by
  obtain ⟨l1, l2, l3⟩ := h.dk.lt
  intro i hi
  rcases skX_mem.1 hi with rfl | rfl | rfl | h1 | h1
  · exact h.blk.lt
  · exact l1
  · exact l2
  · exact l3 i h1
  · exact h.tl.lt i h1
/-- How many bytes a snapshot and records take. -/
def took (snap : List Nat) (list : List (List Nat)) : Nat := snap.length + (list.map fun p => p.length + 32).sum
theorem took_snoc (snap : List Nat) (list : List (List Nat)) (p : List Nat) : took snap (list ++ [p]) = took snap list + (p.length + 32) := by
  simp [took]; omega
theorem took_split (snap : List Nat) (l m : List (List Nat)) : took snap (l ++ m) = took snap l + (m.map fun p => p.length + 32).sum := by
  simp [took]; omega
theorem sum_le {B : Nat} : ∀ {l : List (List Nat)}, (∀ p ∈ l, p.length ≤ B) → (l.map fun p => p.length + 32).sum ≤ l.length * (B + 32)
  | [], _ => by simp
  | p :: l, h => by
    have h1 := h p (by simp)
    have h2 := sum_le (l := l) (fun q hq => h q (by simp [hq]))
    simp only [List.map_cons, List.sum_cons, List.length_cons]
    rw [Nat.add_mul, Nat.one_mul]
    omega
theorem enc_took : ∀ (l : List (List Nat)), (encAll l).length ≤ (l.map fun p => p.length + 32).sum := by
  intro l
  rw [St.encAll_length]
  induction l with
  | nil => simp
  | cons p l ih => simp only [List.map_cons, List.sum_cons]; omega
theorem SInv.mono {D : Dsk} {gen life at' safe bnd : Nat} {tail snap : List Nat} {whole : Bool} {list : List (List Nat)} (h : SInv D gen life at' tail whole snap list safe bnd) (b2 : Nat) (hb : bnd ≤ b2) (h2 : b2 < 1000000) : SInv D gen life at' tail whole snap list safe b2 :=
  { h with bnd := by obtain ⟨a, b, c, d⟩ := h.bnd; exact ⟨a, by omega, by omega, h2⟩ }
theorem sinv_at {D : Dsk} {gen life at' safe bnd : Nat} {tail snap : List Nat} {whole : Bool} {list : List (List Nat)} (h : SInv D gen life at' tail whole snap list safe bnd) : at' ≤ halfN D.B ∧ at' * 55 + tail.length = snap.length + (encAll list).length := by
  obtain ⟨data, hS, hdt⟩ := h.stand
  obtain ⟨last, hc, _⟩ := hS.chain
  have hl := hc.length (fun i => by
    unfold hb
    rw [List.getD_eq_getElem?_getD]
    cases hq : D.B[base (halfN D.B) gen + i]? with
    | none => rfl
    | some b => exact (hS.all b (List.mem_of_getElem? hq)).1)
  refine ⟨hS.room, ?_⟩
  have := congrArg List.length hdt
  simp only [List.length_append, hl] at this
  exact this

/-- A desk stands at pk; all that it is made of was made since w0. -/
structure KsAt (w0 w : World) (pk n bnd ps pd bb : Nat) (lv tv sv lsv : Value) (D : Dsk) (gen life at' safe : Nat) (tail : List Nat) (whole : Bool) (snap : List Nat) (list : List (List Nat)) (F1 F2 : List Nat) : Prop where
  fr : Fr [] w0 w
  blk : Bk w pk 44 [ptr pd, ptr ps, .int .i64 (16 * n - 1024), .bool whole, sv, lsv, .int .i64 safe, .int .i64 (took snap list : Nat)]
  sk : Sk w ps pd bb lv tv D gen life at' list.length safe tail
  inv : SInv D gen life at' tail whole snap list safe bnd
  snp : sSl.rd w [sv] snap F1
  lst : sLs.rd w [lsv] list F2
  newk : w0.heap.size ≤ pk
  newx : ∀ i ∈ skX ps pd bb lv tv, w0.heap.size ≤ i
  new1 : ∀ i ∈ F1, w0.heap.size ≤ i
  new2 : ∀ i ∈ F2, w0.heap.size ≤ i
  kx : pk ∉ skX ps pd bb lv tv
  k1 : pk ∉ F1
  k2 : pk ∉ F2
  x1 : ∀ i ∈ skX ps pd bb lv tv, i ∉ F1
  x2 : ∀ i ∈ skX ps pd bb lv tv, i ∉ F2
  len : D.B.length = n
  ll : D.L.length ≤ bnd * 200000
  n80 : 80 ≤ n ∧ n ≤ 4096
  cnt : list.length ≤ bnd
  bnd' : bnd ≤ 400
section
variable {w0 w : World} {pk n bnd ps pd bb : Nat} {lv tv sv lsv : Value} {D : Dsk} {gen life at' safe : Nat} {tail snap : List Nat} {whole : Bool} {list : List (List Nat)} {F1 F2 : List Nat}
theorem KsAt.took_le (h : KsAt w0 w pk n bnd ps pd bb lv tv sv lsv D gen life at' safe tail whole snap list F1 F2) : took snap list ≤ 100000000 := by
  have h1 := sum_le (B := 65536) (fun p hp => (h.inv.szs p hp).1)
  have h2 := h.inv.snp.1
  have h3 := h.cnt
  have h4 := h.bnd'
  unfold took
  omega
/-- Nothing of the desk is touched. -/
theorem KsAt.fresh (h : KsAt w0 w pk n bnd ps pd bb lv tv sv lsv D gen life at' safe tail whole snap list F1 F2) {w' : World} (f : Fr [] w w') : KsAt w0 w' pk n bnd ps pd bb lv tv sv lsv D gen life at' safe tail whole snap list F1 F2 :=
  { h with fr := h.fr.t f, blk := h.blk.fr f (by simp), sk := h.sk.fresh f, snp := sSl.fr h.snp f (fun i _ => by simp), lst := sLs.fr h.lst f (fun i _ => by simp) }
theorem KsAt.up (h : KsAt w0 w pk n bnd ps pd bb lv tv sv lsv D gen life at' safe tail whole snap list F1 F2) {b2 : Nat} (hb : bnd ≤ b2) (h2 : b2 ≤ 400) : KsAt w0 w pk n b2 ps pd bb lv tv sv lsv D gen life at' safe tail whole snap list F1 F2 :=
  { h with inv := SInv.mono h.inv b2 hb (by omega), ll := Nat.le_trans h.ll (Nat.mul_le_mul_right _ hb), cnt := Nat.le_trans h.cnt hb, bnd' := h2 }
end
def Ks (w0 w : World) (pk n bnd : Nat) : Prop := ∃ ps pd bb lv tv sv lsv D gen life at' safe tail whole snap list F1 F2, KsAt w0 w pk n bnd ps pd bb lv tv sv lsv D gen life at' safe tail whole snap list F1 F2
theorem Ks.up {w0 w : World} {pk n bnd b2 : Nat} (h : Ks w0 w pk n bnd) (hb : bnd ≤ b2) (h2 : b2 ≤ 400) : Ks w0 w pk n b2 := by
  obtain ⟨ps, pd, bb, lv, tv, sv, lsv, D, gen, life, at', safe, tail, whole, snap, list, F1, F2, h⟩ := h
  exact ⟨ps, pd, bb, lv, tv, sv, lsv, D, gen, life, at', safe, tail, whole, snap, list, F1, F2, h.up hb h2⟩
theorem Ks.fresh {w0 w w' : World} {pk n bnd : Nat} (h : Ks w0 w pk n bnd) (f : Fr [] w w') : Ks w0 w' pk n bnd := by
  obtain ⟨ps, pd, bb, lv, tv, sv, lsv, D, gen, life, at', safe, tail, whole, snap, list, F1, F2, h⟩ := h
  exact ⟨ps, pd, bb, lv, tv, sv, lsv, D, gen, life, at', safe, tail, whole, snap, list, F1, F2, h.fresh f⟩

theorem sSl_sl {w : World} {x : Value} {p F : List Nat} (h : sSl.rd w [x] p F) : Sl w 1 x p.length (bytes p) ∧ (0 < p.length → ∀ i ∈ fp x, i < w.heap.size) := by
  have hlt := sSl.lt h
  obtain ⟨v, e, _, hs, rfl⟩ := h
  obtain rfl := (List.cons.inj e).1
  refine ⟨hs, fun h0 i hi => hlt i ?_⟩
  rw [if_neg (by intro e; rw [e] at h0; simp at h0)]
  exact hi

theorem append_c {w0 w : World} {pk n bnd : Nat} {x : Value} {p F : List Nat} (h : Ks w0 w pk n bnd) (hb : bnd < 400) (hx : sSl.rd w0 [x] p F) (hpb : ∀ c ∈ p, c < 256) (hpl : p.length ≤ 1000000000) :
    CallF Try.prog 27 #[ptr pk, x] w fun r w' => r = .bool true ∧ Ks w0 w' pk n (bnd + 1) := by
  obtain ⟨ps, pd, bb, lv, tv, sv, lsv, D, gen, life, at', safe, tail, whole, snap, list, F1, F2, h⟩ := h
  have htk := h.took_le
  obtain ⟨hat, hatl⟩ := sinv_at h.inv
  have hhalf : halfN D.B ≤ 2048 := by have := h.n80; have := h.len; unfold halfN; omega
  have hll := h.ll
  have hcnt := h.cnt
  obtain ⟨hxs0, hx0⟩ := sSl_sl hx
  have hxs : Sl w 1 x p.length (bytes p) := hxs0.fr h.fr (fun i _ => by simp)
  refine C_furlonglaw15_desk_append_link ?_
  unfold C_furlonglaw15_desk_append
  refine nilC (fad (ldC_bk h.blk rfl ((sappend_c h.sk hxs hpb h.inv.tl.2 (by omega) (by have := h.inv.tl.1; omega) (by omega) (by omega)).use ?_)))
  rintro r w1 (⟨rfl, hlong, hF1⟩ | ⟨rfl, hle, hfull, hF1⟩ | ⟨rfl, hle, hfit, D', at2, t2, hput, hL', lv', tv', hsk1, hF1, hsub⟩)
  · refine hxs.lenV (gtr (if_p (fun _ => eql ⟨rfl, ?_⟩) (fun h' => absurd h' (by omega))))
    exact ⟨ps, pd, bb, lv, tv, sv, lsv, D, gen, life, at', safe, tail, whole, snap, list, F1, F2, (h.fresh hF1).up (by omega) (by omega)⟩
  · refine hxs.lenV (gtr (if_p (fun h' => absurd h' (by omega)) (fun _ => eql (if_p (fun _ => ?_) (fun h' => absurd rfl h')))))
    have h1 := h.fresh (hF1.t (Fr.drew [] w1))
    refine ⟨fun w' => Bk w' pk 44 [ptr pd, ptr ps, .int .i64 (16 * n - 1024), .bool whole, sv, lsv, .int .i64 safe, .int .i64 (took snap list : Nat)], h1.blk, ?_⟩
    refine nilC (fad (ldC_S (fun w' h => h) rfl (hxs.lenV (add64 (by omega) (add64 (by omega) ?_)))))
    refine nilC (fad (ldC_S (fun w' h => h) rfl (gtr ⟨?_, ps, pd, bb, lv, tv, sv, lsv, D, gen, life, at', safe, tail, whole, snap, list, F1, F2, h1.up (by omega) (by omega)⟩)))
    congr 1
    rw [decide_eq_true_iff]
    have h2 := enc_took list
    have h3 : (encAll list).length + snap.length ≤ took snap list := by unfold took; omega
    have h4 := h.len
    have h5 := h.n80
    have h6 : halfN D.B * 2 + 3 ≥ n := by unfold halfN; omega
    omega
  · refine hxs.lenV (gtr (if_p (fun h' => absurd h' (by omega)) (fun _ => eql (if_p (fun h' => absurd h' (by decide)) (fun _ => ?_)))))
    obtain ⟨D2, a2, u2, hput2, hinv2, hlen2⟩ := St.sinv_append h.inv hle hpb (by have : (encRec p).length = 4 + p.length := by { simp [encRec, put4]; omega }; omega)
    obtain ⟨rfl, e2⟩ := Prod.mk.inj (hput.symm.trans hput2)
    obtain ⟨rfl, rfl⟩ := Prod.mk.inj e2
    -- what the desk holds
    have hpk1 : Bk w1 pk 44 [ptr pd, ptr ps, .int .i64 (16 * n - 1024), .bool whole, sv, lsv, .int .i64 safe, .int .i64 (took snap list : Nat)] := h.blk.fr hF1 h.kx
    have hsn1 := sSl.fr h.snp hF1 (fun i hi hm => h.x1 i hm hi)
    have hls1 := sLs.fr h.lst hF1 (fun i hi hm => h.x2 i hm hi)
    have hx1 : Sl w1 1 x p.length (bytes p) := hxs.fr1 hF1 (fun h0 i hi hm => by have := hx0 h0 i hi; have := h.newx i hm; omega)
    have hlt1 := hsk1.lt
    have hF01 : Fr [] w0 w1 := h.fr.trans hF1 (fun i hi => .inr (h.newx i hi))
    have hw01 := hF01.size
    obtain ⟨cells, G, hcap, hsl, hrows, hGF, hFe⟩ := list_open hls1
    refine lit_new (vs := []) Try.underlying23 infoS rfl rfl rfl (by omega) (by simp) ?_
    intro v2 w2 hN2
    refine nilC (fad (ldC_bk (hpk1.fr hN2.fr (by simp)) rfl ?_))
    refine append' hN2 Try.underlying23 infoS rfl (by omega) (hsl.fr hN2.fr (fun i _ => by simp)) (rows_one sSl hrows) (by omega) (by omega) ?_
    intro v3 w3 hN3 _ _
    refine (twin_c (hx1.fr hN3.fr (fun i _ => by simp)) hpl).use ?_
    intro v4 w4 hN4
    have hN34 := hN3.fresh hN4.fr
    have h4c : v4.cells = #[v4] := by obtain ⟨A, c, rfl⟩ := hN4.own.len; rfl
    have h4o : v4.oneCell' = true := by obtain ⟨A, c, rfl⟩ := hN4.own.len; rfl
    refine lit' (vs := [v4]) Try.underlying23 infoS rfl rfl rfl (by omega) (by simpa using h4c) ?_
    intro b4 w4' hb4 hB4 hF4 _
    refine append' (hN34.fresh hF4) Try.underlying23 infoS rfl (by omega) (hB4.sl (n := 1) rfl 1) (by simpa using h4o) (by omega) (by omega) ?_
    intro v5 w5 hN5 hF45 _
    have hF45' : Fr (fp v3) w4 w5 := (hF4.mono (fun i hi => by simp at hi)).trans hF45 (fun i hi => .inl hi)
    have ho4 := hN4.own.fr hF45' (fun i hi hm => by have := hN4.new i hi; have := hN3.own.lt i hm; omega)
    have hF15 := hN5.fr
    have hlen5 : 0 + list.length + 1 = (list ++ [p]).length := by rw [List.length_append]; simp
    rw [hlen5] at hN5
    have hpk5 := hpk1.fr hF15 (by simp)
    refine nilC (fad (store' hpk5 (by kernel_rfl) (by simp) (by obtain ⟨A, c, rfl⟩ := hN5.own.len; rfl) ?_))
    intro w6 hB6 hF6 _
    refine nilC (fad (ldC_bk hB6 rfl (hxs.lenV (add64 (by omega) (add64 (by omega) ?_)))))
    refine nilC (fad (store' hB6 (by kernel_rfl) (by simp) rfl ?_))
    intro w7 hB7 hF7 _
    refine eql ⟨rfl, ?_⟩
    have hF57 := hF6.t hF7
    have hF17 : Fr [pk] w1 w7 := (hF15.mono (fun i hi => by simp at hi)).t hF57
    have hkx1 : pk ∉ skX ps pd bb lv' tv' := fun hm => (hsub pk hm).elim h.kx (fun h' => by have := h.blk.lt; omega)
    have hlt2 : ∀ i ∈ F2, i < w1.heap.size := sLs.lt hls1
    -- the list
    obtain ⟨Fp, hp5, hFp⟩ := own_sl ho4
    have hpkl := hpk1.lt
    have hw13 := hN3.fr.size
    have hFpn : ∀ i ∈ Fp, w1.heap.size ≤ i := fun i hi => by have := hN4.new i (hFp i hi); omega
    have hrows7 := rows_snoc sSl (sSl.fr hp5 hF57 (fun i hi hm => by have := hFpn i hi; simp at hm; omega)) (rows_fr sSl hF17 hrows (fun i hi hm => h.k2 (by simp at hm; subst hm; exact hGF i hi)))
    have h5n := hN5.new
    have hls7 : sLs.rd w7 [v5] (list ++ [p]) ((if list ++ [p] = [] then [] else fp v5) ++ (G ++ Fp)) :=
      ⟨v5, _, G ++ Fp, rfl, hN5.own.cap, hN5.own.sl.fr hF57 (fun i hi hm => by have := h5n i hi; simp at hm; omega), by simpa using hrows7, rfl⟩
    have hmem : ∀ i ∈ (if list ++ [p] = [] then [] else fp v5) ++ (G ++ Fp), i ∈ F2 ∨ w1.heap.size ≤ i := by
      intro i hi
      rw [if_neg (by simp)] at hi
      rcases List.mem_append.1 hi with hi | hi
      · exact .inr (h5n i hi)
      · exact (List.mem_append.1 hi).imp (hGF i) (hFpn i)
    have hle1 := h.fr.size
    have hF1s := hF1.size
    refine ⟨ps, pd, bb, lv', tv', sv, v5, _, gen, life, _, safe, _, whole, snap, list ++ [p], F1, _, { fr := hF01.trans hF17 (fun i hi => .inr (by simp at hi; subst hi; exact h.newk)), blk := ?_, sk := ?_, inv := SInv.mono hinv2 _ (by omega) (by omega), snp := sSl.fr hsn1 hF17 (fun i hi hm => h.k1 (by simp at hm; subst hm; exact hi)), lst := hls7, newk := h.newk, newx := fun i hi => (hsub i hi).elim (h.newx i) (fun _ => by omega), new1 := h.new1, new2 := fun i hi => (hmem i hi).elim (h.new2 i) (fun _ => by omega), kx := hkx1, k1 := h.k1, k2 := fun hm => (hmem _ hm).elim h.k2 (fun _ => by omega), x1 := ?_, x2 := ?_, len := by rw [hlen2]; exact h.len, ll := ?_, n80 := h.n80, cnt := by rw [List.length_append]; simp; omega, bnd' := by omega }⟩
    · rw [took_snoc]
      have e : (((took snap list + (p.length + 32) : Nat)) : Int) = (took snap list : Int) + ((p.length : Int) + 32) := by omega
      rw [e]
      simpa using hB7
    · rw [List.length_append]
      exact hsk1.fr hF17 (fun i hi hm => hkx1 (by simp at hm; subst hm; exact hi))
    · intro i hi hm
      exact (hsub i hi).elim (fun h' => h.x1 i h' hm) (fun h' => by have := sSl.lt h.snp i hm; omega)
    · intro i hi hm
      rcases hmem i hm with h' | h'
      · exact (hsub i hi).elim (fun h'' => h.x2 i h'' h') (fun h'' => by have := sLs.lt h.lst i h'; omega)
      · have := hlt1 i hi; omega
    · exact bnd_up (by omega)
end Go.Proofs.Ytmlaconjeplhpaa
