/- The desk: a store on its disk, and what it must hold. Its method append. The desk's method checkpoint. The desk's method crash. The desk's method do; blocks. A store on its disk, with what it holds, and what else must stand. awake, begin. begin; the laws StoreHolds and StoreStale. The laws StoreHolds and StoreStale, for arguments that stand in memory. -/
import Derived.Test.YtmlaconjeplhpaaMD
set_option linter.unusedVariables false
set_option linter.unusedSimpArgs false
set_option maxRecDepth 20000
namespace Go.Proofs.Ytmlaconjeplhpaa
open Go Go.Vc
open St (Dsk All64 Blk pad four put4 halfN base hb walk eldest rootF openF putF rootL SInv encAll encRec)

theorem bnd_up {b x : Nat} (h : x ≤ b * 200000 + 100000) : x ≤ (b + 1) * 200000 := by omega
theorem infoS : (Try.prog.info? 24).map (fun i => (i.zero, i.size, i.bytes)) = some (some (.slice none 0 0), 1, 24) := by kernel_rfl
theorem Sk.lt {w : World} {ps pd bb : Nat} {lv tv : Value} {D : Dsk} {gen life at' count safe : Nat} {tail : List Nat} (h : Sk w ps pd bb lv tv D gen life at' count safe tail) : ∀ i ∈ skX ps pd bb lv tv, i < w.heap.size := by
  obtain ⟨l1, l2, l3⟩ := h.dk.lt
  intro i hi
  rcases skX_mem.1 hi with rfl | rfl | rfl | h1 | h1
  · exact h.blk.lt
  · exact l1
  · exact l2
  · exact l3 i h1
  · exact h.tl.lt i h1
/-- How many bytes a snapshot and records take. -/
def took (snap : List Nat) (list : List (List Nat)) : Nat := snap.length + (list.map fun p => p.length + 32).sum
theorem took_snoc (snap : List Nat) (list : List (List Nat)) (p : List Nat) : took snap (list ++ [p]) = took snap list + (p.length + 32) := by
  simp [took]; omega
theorem took_split (snap : List Nat) (l m : List (List Nat)) : took snap (l ++ m) = took snap l + (m.map fun p => p.length + 32).sum := by
  simp [took]; omega
theorem sum_le {B : Nat} : ∀ {l : List (List Nat)}, (∀ p ∈ l, p.length ≤ B) → (l.map fun p => p.length + 32).sum ≤ l.length * (B + 32)
  | [], _ => by simp
  | p :: l, h => by
    have h1 := h p (by simp)
    have h2 := sum_le (l := l) (fun q hq => h q (by simp [hq]))
    simp only [List.map_cons, List.sum_cons, List.length_cons]
    rw [Nat.add_mul, Nat.one_mul]
    omega
theorem enc_took : ∀ (l : List (List Nat)), (encAll l).length ≤ (l.map fun p => p.length + 32).sum := by
  intro l
  rw [St.encAll_length]
  induction l with
  | nil => simp
  | cons p l ih => simp only [List.map_cons, List.sum_cons]; omega
theorem SInv.mono {D : Dsk} {gen life at' safe bnd : Nat} {tail snap : List Nat} {whole : Bool} {list : List (List Nat)} (h : SInv D gen life at' tail whole snap list safe bnd) (b2 : Nat) (hb : bnd ≤ b2) (h2 : b2 < 1000000) : SInv D gen life at' tail whole snap list safe b2 :=
  { h with bnd := by obtain ⟨a, b, c, d⟩ := h.bnd; exact ⟨a, by omega, by omega, h2⟩ }
theorem sinv_at {D : Dsk} {gen life at' safe bnd : Nat} {tail snap : List Nat} {whole : Bool} {list : List (List Nat)} (h : SInv D gen life at' tail whole snap list safe bnd) : at' ≤ halfN D.B ∧ at' * 55 + tail.length = snap.length + (encAll list).length := by
  obtain ⟨data, hS, hdt⟩ := h.stand
  obtain ⟨last, hc, _⟩ := hS.chain
  have hl := hc.length (fun i => by
    unfold hb
    rw [List.getD_eq_getElem?_getD]
    cases hq : D.B[base (halfN D.B) gen + i]? with
    | none => rfl
    | some b => exact (hS.all b (List.mem_of_getElem? hq)).1)
  refine ⟨hS.room, ?_⟩
  have := congrArg List.length hdt
  simp only [List.length_append, hl] at this
  exact this

/-- A desk stands at pk; all that it is made of was made since w0. -/
structure KsAt (w0 w : World) (pk n bnd ps pd bb : Nat) (lv tv sv lsv : Value) (D : Dsk) (gen life at' safe : Nat) (tail : List Nat) (whole : Bool) (snap : List Nat) (list : List (List Nat)) (F1 F2 : List Nat) : Prop where
  fr : Fr [] w0 w
  blk : Bk w pk 44 [ptr pd, ptr ps, .int .i64 (16 * n - 1024), .bool whole, sv, lsv, .int .i64 safe, .int .i64 (took snap list : Nat)]
  sk : Sk w ps pd bb lv tv D gen life at' list.length safe tail
  inv : SInv D gen life at' tail whole snap list safe bnd
  snp : sSl.rd w [sv] snap F1
  lst : sLs.rd w [lsv] list F2
  newk : w0.heap.size ≤ pk
  newx : ∀ i ∈ skX ps pd bb lv tv, w0.heap.size ≤ i
  new1 : ∀ i ∈ F1, w0.heap.size ≤ i
  new2 : ∀ i ∈ F2, w0.heap.size ≤ i
  kx : pk ∉ skX ps pd bb lv tv
  k1 : pk ∉ F1
  k2 : pk ∉ F2
  x1 : ∀ i ∈ skX ps pd bb lv tv, i ∉ F1
  x2 : ∀ i ∈ skX ps pd bb lv tv, i ∉ F2
  len : D.B.length = n
  ll : D.L.length ≤ bnd * 200000
  n80 : 80 ≤ n ∧ n ≤ 4096
  cnt : list.length ≤ bnd
  bnd' : bnd ≤ 400
section
variable {w0 w : World} {pk n bnd ps pd bb : Nat} {lv tv sv lsv : Value} {D : Dsk} {gen life at' safe : Nat} {tail snap : List Nat} {whole : Bool} {list : List (List Nat)} {F1 F2 : List Nat}
theorem KsAt.took_le (h : KsAt w0 w pk n bnd ps pd bb lv tv sv lsv D gen life at' safe tail whole snap list F1 F2) : took snap list ≤ 100000000 := by
  have h1 := sum_le (B := 65536) (fun p hp => (h.inv.szs p hp).1)
  have h2 := h.inv.snp.1
  have h3 := h.cnt
  have h4 := h.bnd'
  unfold took
  omega
/-- Nothing of the desk is touched. -/
theorem KsAt.fresh (h : KsAt w0 w pk n bnd ps pd bb lv tv sv lsv D gen life at' safe tail whole snap list F1 F2) {w' : World} (f : Fr [] w w') : KsAt w0 w' pk n bnd ps pd bb lv tv sv lsv D gen life at' safe tail whole snap list F1 F2 :=
  { h with fr := h.fr.t f, blk := h.blk.fr f (by simp), sk := h.sk.fresh f, snp := sSl.fr h.snp f (fun i _ => by simp), lst := sLs.fr h.lst f (fun i _ => by simp) }
theorem KsAt.up (h : KsAt w0 w pk n bnd ps pd bb lv tv sv lsv D gen life at' safe tail whole snap list F1 F2) {b2 : Nat} (hb : bnd ≤ b2) (h2 : b2 ≤ 400) : KsAt w0 w pk n b2 ps pd bb lv tv sv lsv D gen life at' safe tail whole snap list F1 F2 :=
  { h with inv := SInv.mono h.inv b2 hb (by omega), ll := Nat.le_trans h.ll (Nat.mul_le_mul_right _ hb), cnt := Nat.le_trans h.cnt hb, bnd' := h2 }
end
def Ks (w0 w : World) (pk n bnd : Nat) : Prop := ∃ ps pd bb lv tv sv lsv D gen life at' safe tail whole snap list F1 F2, KsAt w0 w pk n bnd ps pd bb lv tv sv lsv D gen life at' safe tail whole snap list F1 F2
theorem Ks.up {w0 w : World} {pk n bnd b2 : Nat} (h : Ks w0 w pk n bnd) (hb : bnd ≤ b2) (h2 : b2 ≤ 400) : Ks w0 w pk n b2 := by
  obtain ⟨ps, pd, bb, lv, tv, sv, lsv, D, gen, life, at', safe, tail, whole, snap, list, F1, F2, h⟩ := h
  exact ⟨ps, pd, bb, lv, tv, sv, lsv, D, gen, life, at', safe, tail, whole, snap, list, F1, F2, h.up hb h2⟩
theorem Ks.fresh {w0 w w' : World} {pk n bnd : Nat} (h : Ks w0 w pk n bnd) (f : Fr [] w w') : Ks w0 w' pk n bnd := by
  obtain ⟨ps, pd, bb, lv, tv, sv, lsv, D, gen, life, at', safe, tail, whole, snap, list, F1, F2, h⟩ := h
  exact ⟨ps, pd, bb, lv, tv, sv, lsv, D, gen, life, at', safe, tail, whole, snap, list, F1, F2, h.fresh f⟩

theorem sSl_sl {w : World} {x : Value} {p F : List Nat} (h : sSl.rd w [x] p F) : Sl w 1 x p.length (bytes p) ∧ (0 < p.length → ∀ i ∈ fp x, i < w.heap.size) := by
  have hlt := sSl.lt h
  obtain ⟨v, e, _, hs, rfl⟩ := h
  obtain rfl := (List.cons.inj e).1
  refine ⟨hs, fun h0 i hi => hlt i ?_⟩
  rw [if_neg (by intro e; rw [e] at h0; simp at h0)]
  exact hi

theorem append_c {w0 w : World} {pk n bnd : Nat} {x : Value} {p F : List Nat} (h : Ks w0 w pk n bnd) (hb : bnd < 400) (hx : sSl.rd w0 [x] p F) (hpb : ∀ c ∈ p, c < 256) (hpl : p.length ≤ 1000000000) :
    CallF Try.prog 27 #[ptr pk, x] w fun r w' => r = .bool true ∧ Ks w0 w' pk n (bnd + 1) := by
  obtain ⟨ps, pd, bb, lv, tv, sv, lsv, D, gen, life, at', safe, tail, whole, snap, list, F1, F2, h⟩ := h
  have htk := h.took_le
  obtain ⟨hat, hatl⟩ := sinv_at h.inv
  have hhalf : halfN D.B ≤ 2048 := by have := h.n80; have := h.len; unfold halfN; omega
  have hll := h.ll
  have hcnt := h.cnt
  obtain ⟨hxs0, hx0⟩ := sSl_sl hx
  have hxs : Sl w 1 x p.length (bytes p) := hxs0.fr h.fr (fun i _ => by simp)
  refine C_furlonglaw15_desk_append_link ?_
  unfold C_furlonglaw15_desk_append
  refine nilC (fad (ldC_bk h.blk rfl ((sappend_c h.sk hxs hpb h.inv.tl.2 (by omega) (by have := h.inv.tl.1; omega) (by omega) (by omega)).use ?_)))
  rintro r w1 (⟨rfl, hlong, hF1⟩ | ⟨rfl, hle, hfull, hF1⟩ | ⟨rfl, hle, hfit, D', at2, t2, hput, hL', lv', tv', hsk1, hF1, hsub⟩)
  · refine hxs.lenV (gtr (if_p (fun _ => eql ⟨rfl, ?_⟩) (fun h' => absurd h' (by omega))))
    exact ⟨ps, pd, bb, lv, tv, sv, lsv, D, gen, life, at', safe, tail, whole, snap, list, F1, F2, (h.fresh hF1).up (by omega) (by omega)⟩
  · refine hxs.lenV (gtr (if_p (fun h' => absurd h' (by omega)) (fun _ => eql (if_p (fun _ => ?_) (fun h' => absurd rfl h')))))
    have h1 := h.fresh (hF1.t (Fr.drew [] w1))
    refine ⟨fun w' => Bk w' pk 44 [ptr pd, ptr ps, .int .i64 (16 * n - 1024), .bool whole, sv, lsv, .int .i64 safe, .int .i64 (took snap list : Nat)], h1.blk, ?_⟩
    refine nilC (fad (ldC_S (fun w' h => h) rfl (hxs.lenV (add64 (by omega) (add64 (by omega) ?_)))))
    refine nilC (fad (ldC_S (fun w' h => h) rfl (gtr ⟨?_, ps, pd, bb, lv, tv, sv, lsv, D, gen, life, at', safe, tail, whole, snap, list, F1, F2, h1.up (by omega) (by omega)⟩)))
    congr 1
    rw [decide_eq_true_iff]
    have h2 := enc_took list
    have h3 : (encAll list).length + snap.length ≤ took snap list := by unfold took; omega
    have h4 := h.len
    have h5 := h.n80
    have h6 : halfN D.B * 2 + 3 ≥ n := by unfold halfN; omega
    omega
  · refine hxs.lenV (gtr (if_p (fun h' => absurd h' (by omega)) (fun _ => eql (if_p (fun h' => absurd h' (by decide)) (fun _ => ?_)))))
    obtain ⟨D2, a2, u2, hput2, hinv2, hlen2⟩ := St.sinv_append h.inv hle hpb (by have : (encRec p).length = 4 + p.length := by { simp [encRec, put4]; omega }; omega)
    obtain ⟨rfl, e2⟩ := Prod.mk.inj (hput.symm.trans hput2)
    obtain ⟨rfl, rfl⟩ := Prod.mk.inj e2
    -- what the desk holds
    have hpk1 : Bk w1 pk 44 [ptr pd, ptr ps, .int .i64 (16 * n - 1024), .bool whole, sv, lsv, .int .i64 safe, .int .i64 (took snap list : Nat)] := h.blk.fr hF1 h.kx
    have hsn1 := sSl.fr h.snp hF1 (fun i hi hm => h.x1 i hm hi)
    have hls1 := sLs.fr h.lst hF1 (fun i hi hm => h.x2 i hm hi)
    have hx1 : Sl w1 1 x p.length (bytes p) := hxs.fr1 hF1 (fun h0 i hi hm => by have := hx0 h0 i hi; have := h.newx i hm; omega)
    have hlt1 := hsk1.lt
    have hF01 : Fr [] w0 w1 := h.fr.trans hF1 (fun i hi => .inr (h.newx i hi))
    have hw01 := hF01.size
    obtain ⟨cells, G, hcap, hsl, hrows, hGF, hFe⟩ := list_open hls1
    refine lit_new (vs := []) Try.underlying23 infoS rfl rfl rfl (by omega) (by simp) ?_
    intro v2 w2 hN2
    refine nilC (fad (ldC_bk (hpk1.fr hN2.fr (by simp)) rfl ?_))
    refine append' hN2 Try.underlying23 infoS rfl (by omega) (hsl.fr hN2.fr (fun i _ => by simp)) (rows_one sSl hrows) (by omega) (by omega) ?_
    intro v3 w3 hN3 _ _
    refine (twin_c (hx1.fr hN3.fr (fun i _ => by simp)) hpl).use ?_
    intro v4 w4 hN4
    have hN34 := hN3.fresh hN4.fr
    have h4c : v4.cells = #[v4] := by obtain ⟨A, c, rfl⟩ := hN4.own.len; rfl
    have h4o : v4.oneCell' = true := by obtain ⟨A, c, rfl⟩ := hN4.own.len; rfl
    refine lit' (vs := [v4]) Try.underlying23 infoS rfl rfl rfl (by omega) (by simpa using h4c) ?_
    intro b4 w4' hb4 hB4 hF4 _
    refine append' (hN34.fresh hF4) Try.underlying23 infoS rfl (by omega) (hB4.sl (n := 1) rfl 1) (by simpa using h4o) (by omega) (by omega) ?_
    intro v5 w5 hN5 hF45 _
    have hF45' : Fr (fp v3) w4 w5 := (hF4.mono (fun i hi => by simp at hi)).trans hF45 (fun i hi => .inl hi)
    have ho4 := hN4.own.fr hF45' (fun i hi hm => by have := hN4.new i hi; have := hN3.own.lt i hm; omega)
    have hF15 := hN5.fr
    have hlen5 : 0 + list.length + 1 = (list ++ [p]).length := by rw [List.length_append]; simp
    rw [hlen5] at hN5
    have hpk5 := hpk1.fr hF15 (by simp)
    refine nilC (fad (store' hpk5 (by kernel_rfl) (by simp) (by obtain ⟨A, c, rfl⟩ := hN5.own.len; rfl) ?_))
    intro w6 hB6 hF6 _
    refine nilC (fad (ldC_bk hB6 rfl (hxs.lenV (add64 (by omega) (add64 (by omega) ?_)))))
    refine nilC (fad (store' hB6 (by kernel_rfl) (by simp) rfl ?_))
    intro w7 hB7 hF7 _
    refine eql ⟨rfl, ?_⟩
    have hF57 := hF6.t hF7
    have hF17 : Fr [pk] w1 w7 := (hF15.mono (fun i hi => by simp at hi)).t hF57
    have hkx1 : pk ∉ skX ps pd bb lv' tv' := fun hm => (hsub pk hm).elim h.kx (fun h' => by have := h.blk.lt; omega)
    have hlt2 : ∀ i ∈ F2, i < w1.heap.size := sLs.lt hls1
    -- the list
    obtain ⟨Fp, hp5, hFp⟩ := own_sl ho4
    have hpkl := hpk1.lt
    have hw13 := hN3.fr.size
    have hFpn : ∀ i ∈ Fp, w1.heap.size ≤ i := fun i hi => by have := hN4.new i (hFp i hi); omega
    have hrows7 := rows_snoc sSl (sSl.fr hp5 hF57 (fun i hi hm => by have := hFpn i hi; simp at hm; omega)) (rows_fr sSl hF17 hrows (fun i hi hm => h.k2 (by simp at hm; subst hm; exact hGF i hi)))
    have h5n := hN5.new
    have hls7 : sLs.rd w7 [v5] (list ++ [p]) ((if list ++ [p] = [] then [] else fp v5) ++ (G ++ Fp)) :=
      ⟨v5, _, G ++ Fp, rfl, hN5.own.cap, hN5.own.sl.fr hF57 (fun i hi hm => by have := h5n i hi; simp at hm; omega), by simpa using hrows7, rfl⟩
    have hmem : ∀ i ∈ (if list ++ [p] = [] then [] else fp v5) ++ (G ++ Fp), i ∈ F2 ∨ w1.heap.size ≤ i := by
      intro i hi
      rw [if_neg (by simp)] at hi
      rcases List.mem_append.1 hi with hi | hi
      · exact .inr (h5n i hi)
      · exact (List.mem_append.1 hi).imp (hGF i) (hFpn i)
    have hle1 := h.fr.size
    have hF1s := hF1.size
    refine ⟨ps, pd, bb, lv', tv', sv, v5, _, gen, life, _, safe, _, whole, snap, list ++ [p], F1, _, { fr := hF01.trans hF17 (fun i hi => .inr (by simp at hi; subst hi; exact h.newk)), blk := ?_, sk := ?_, inv := SInv.mono hinv2 _ (by omega) (by omega), snp := sSl.fr hsn1 hF17 (fun i hi hm => h.k1 (by simp at hm; subst hm; exact hi)), lst := hls7, newk := h.newk, newx := fun i hi => (hsub i hi).elim (h.newx i) (fun _ => by omega), new1 := h.new1, new2 := fun i hi => (hmem i hi).elim (h.new2 i) (fun _ => by omega), kx := hkx1, k1 := h.k1, k2 := fun hm => (hmem _ hm).elim h.k2 (fun _ => by omega), x1 := ?_, x2 := ?_, len := by rw [hlen2]; exact h.len, ll := ?_, n80 := h.n80, cnt := by rw [List.length_append]; simp; omega, bnd' := by omega }⟩
    · rw [took_snoc]
      have e : (((took snap list + (p.length + 32) : Nat)) : Int) = (took snap list : Int) + ((p.length : Int) + 32) := by omega
      rw [e]
      simpa using hB7
    · rw [List.length_append]
      exact hsk1.fr hF17 (fun i hi hm => hkx1 (by simp at hm; subst hm; exact hi))
    · intro i hi hm
      exact (hsub i hi).elim (fun h' => h.x1 i h' hm) (fun h' => by have := sSl.lt h.snp i hm; omega)
    · intro i hi hm
      rcases hmem i hm with h' | h'
      · exact (hsub i hi).elim (fun h'' => h.x2 i h'' h') (fun h'' => by have := sLs.lt h.lst i h'; omega)
      · have := hlt1 i hi; omega
    · exact bnd_up (by omega)
end Go.Proofs.Ytmlaconjeplhpaa

set_option linter.unusedVariables false
set_option linter.unusedSimpArgs false
set_option maxRecDepth 20000
namespace Go.Proofs.Ytmlaconjeplhpaa
open Go Go.Vc
open St (Dsk All64 Blk pad four put4 halfN base hb walk eldest rootF openF putF rootL SInv encAll encRec)

theorem checkpoint_c {w0 w : World} {pk n bnd : Nat} {x : Value} {p F : List Nat} (h : Ks w0 w pk n bnd) (hb : bnd < 400) (hx : sSl.rd w0 [x] p F) (hpb : ∀ c ∈ p, c < 256) (hpl : p.length ≤ 1000000000) :
    CallF Try.prog 29 #[ptr pk, x] w fun r w' => r = .bool true ∧ Ks w0 w' pk n (bnd + 1) := by
  obtain ⟨ps, pd, bb, lv, tv, sv, lsv, D, gen, life, at', safe, tail, whole, snap, list, F1, F2, h⟩ := h
  have htk := h.took_le
  have hn80 := h.n80
  have hlen := h.len
  have hhalf : halfN D.B ≤ 2048 := by unfold halfN; omega
  have hll := h.ll
  have hcnt := h.cnt
  have hbn := h.inv.bnd
  obtain ⟨hxs0, hx0⟩ := sSl_sl hx
  have hxs : Sl w 1 x p.length (bytes p) := hxs0.fr h.fr (fun i _ => by simp)
  have hxd : 0 < p.length → ∀ i ∈ fp x, i ∉ skX ps pd bb lv tv := fun h0 i hi hm => by have := hx0 h0 i hi; have := h.newx i hm; omega
  refine C_furlonglaw15_desk_checkpoint_link ?_
  unfold C_furlonglaw15_desk_checkpoint
  refine nilC (fad (ldC_bk h.blk rfl ((schk_c h.sk hxs hpb (by omega) hxd (by omega) (by omega)).use ?_)))
  rintro r w1 (⟨rfl, hlong, hF1⟩ | ⟨rfl, hle, hfull, hF1⟩ | ⟨rfl, hle, hfit, D', at2, t2, hput, lv', tv', hsk1, hF1, hsub⟩)
  · refine hxs.lenV (gtr (if_p (fun _ => eql ⟨rfl, ?_⟩) (fun h' => absurd h' (by omega))))
    exact ⟨ps, pd, bb, lv, tv, sv, lsv, D, gen, life, at', safe, tail, whole, snap, list, F1, F2, (h.fresh hF1).up (by omega) (by omega)⟩
  · refine hxs.lenV (gtr (if_p (fun h' => absurd h' (by omega)) (fun _ => eql (if_p (fun _ => ?_) (fun h' => absurd rfl h')))))
    have h1 := h.fresh hF1
    refine hxs.lenV (nilC (fad (ldC_bk h1.blk rfl (gtr ⟨?_, ps, pd, bb, lv, tv, sv, lsv, D, gen, life, at', safe, tail, whole, snap, list, F1, F2, h1.up (by omega) (by omega)⟩))))
    congr 1
    rw [decide_eq_true_iff]
    have h6 : halfN D.B * 2 + 3 ≥ n := by unfold halfN; omega
    omega
  · refine hxs.lenV (gtr (if_p (fun h' => absurd h' (by omega)) (fun _ => eql (if_p (fun h' => absurd h' (by decide)) (fun _ => ?_)))))
    obtain ⟨D2, a2, u2, hput2, hlen2, hinv2⟩ := St.sinv_checkpoint h.inv (by omega) hle hpb hfit
    obtain ⟨rfl, e2⟩ := Prod.mk.inj (hput.symm.trans hput2)
    obtain ⟨rfl, rfl⟩ := Prod.mk.inj e2
    have hpk1 : Bk w1 pk 44 [ptr pd, ptr ps, .int .i64 (16 * n - 1024), .bool whole, sv, lsv, .int .i64 safe, .int .i64 (took snap list : Nat)] := h.blk.fr hF1 h.kx
    have hx1 : Sl w1 1 x p.length (bytes p) := hxs.fr1 hF1 hxd
    have hF01 : Fr [] w0 w1 := h.fr.trans hF1 (fun i hi => .inr (h.newx i hi))
    have hw01 := hF01.size
    have hlt1 := hsk1.lt
    have hpkl := hpk1.lt
    refine (twin_c hx1 hpl).use ?_
    intro v2 w2 hN2
    have hpk2 := hpk1.fr hN2.fr (by simp)
    refine hxs.lenV ?_
    refine nilC (fad (store' hpk2 (by kernel_rfl) (by simp) rfl ?_))
    intro w3 hB3 hF3 _
    refine nilC (fad (store' hB3 (by kernel_rfl) (by simp) (by obtain ⟨A, c, rfl⟩ := hN2.own.len; rfl) ?_))
    intro w4 hB4 hF4 _
    refine nilC (fad (store' hB4 (by kernel_rfl) (by simp) rfl ?_))
    intro w5 hB5 hF5 _
    refine nilC (fad (store' hB5 (by kernel_rfl) (by simp) rfl ?_))
    intro w6 hB6 hF6 _
    refine nilC (fad (store' hB6 (by kernel_rfl) (by simp) rfl ?_))
    intro w7 hB7 hF7 _
    refine eql ⟨rfl, ?_⟩
    have hF27 : Fr [pk] w2 w7 := (((hF3.t hF4).t hF5).t hF6).t hF7
    have hF17 : Fr [pk] w1 w7 := (hN2.fr.mono (fun i hi => by simp at hi)).t hF27
    have hkx1 : pk ∉ skX ps pd bb lv' tv' := fun hm => (hsub pk hm).elim h.kx (fun h' => by have := h.blk.lt; omega)
    obtain ⟨Fp, hp2, hFp⟩ := own_sl hN2.own
    have hFpn : ∀ i ∈ Fp, w1.heap.size ≤ i := fun i hi => hN2.new i (hFp i hi)
    have hle1 := h.fr.size
    have hF1s := hF1.size
    refine ⟨ps, pd, bb, lv', tv', v2, .slice none 0 0, _, gen + 1, life, _, 0, _, true, p, [], Fp, [], { fr := hF01.trans hF17 (fun i hi => .inr (by simp at hi; subst hi; exact h.newk)), blk := by simpa [took] using hB7, sk := hsk1.fr hF17 (fun i hi hm => hkx1 (by simp at hm; subst hm; exact hi)), inv := hinv2, snp := sSl.fr hp2 hF27 (fun i hi hm => by have := hFpn i hi; simp at hm; omega), lst := ⟨.slice none 0 0, [], [], rfl, Nat.le_refl _, ⟨none, 0, rfl, rfl, fun _ => ⟨rfl, rfl⟩, fun a ha => by cases ha⟩, ⟨rfl, rfl⟩, rfl⟩, newk := h.newk, newx := fun i hi => (hsub i hi).elim (h.newx i) (fun _ => by omega), new1 := fun i hi => by have := hFpn i hi; omega, new2 := fun i hi => (by cases hi), kx := hkx1, k1 := fun hm => by have := hFpn _ hm; omega, k2 := fun hm => (by cases hm), x1 := fun i hi hm => by have := hFpn i hm; have := hlt1 i hi; omega, x2 := fun i hi hm => (by cases hm), len := ?_, ll := Nat.zero_le _, n80 := h.n80, cnt := Nat.zero_le _, bnd' := by omega }⟩
    have hw : ((Dsk.mk D'.B []).write ((gen + 1) % 2) (pad (rootL (gen + 1) p.length))).B.length = D'.B.length := by unfold Dsk.write; split <;> simp
    exact hw.trans (hlen2.trans h.len)
end Go.Proofs.Ytmlaconjeplhpaa

set_option linter.unusedVariables false
set_option linter.unusedSimpArgs false
set_option maxRecDepth 20000
namespace Go.Proofs.Ytmlaconjeplhpaa
open Go Go.Vc
open St (Dsk All64 Blk pad four put4 halfN base hb walk eldest rootF openF putF rootL SInv encAll encRec)

theorem gdB {g : Bool} {A : (Value → Prop) → Prop} {k : Value → Prop} (v : Value) (hA : g = true → A (fun u => u = v)) (hk : k (bif g then v else undef)) : GdP g A k :=
  ⟨_, fun hg => by rw [hg]; exact hA hg, fun hg => by rw [hg]; rfl, hk⟩
theorem neq_bool {S : World → Prop} {t : TypeId} {cx cy : Bool} {a b : Bool} {k : Value → Prop} (hu : Try.prog.underlying t = some .bool) (h : k (.bool (a != b))) : Bin Try.prog S .neq t cx cy (.bool a) (.bool b) k := by
  refine ⟨_, fun w hw => ?_, h⟩
  have := run_equal_bool (P := Try.prog) w t a b hu
  simp [binSem, eqGuard, binOp, this]
  cases a <;> cases b <;> rfl
theorem slcHi_ex {w : World} {size n m : Nat} {v : Value} {cells : List Value} {κ : IntKind} (hs : Sl w size v n cells) (hc : capOk v) (hl : m ≤ n) :
    ∃ v', SlcS size v none (some (.int κ m)) none (fun u => u = v') ∧ Sl w size v' m (cells.take (m * size)) ∧ capOk v' ∧ (∀ i ∈ fp v', i ∈ fp v) := by
  have := slcHi (κ := κ) (k := fun v' => Sl w size v' m (cells.take (m * size)) ∧ capOk v' ∧ (∀ i ∈ fp v', i ∈ fp v)) hs hc hl (fun v' a b c => ⟨a, b, c⟩)
  obtain ⟨A, c, rfl, _⟩ := hs
  obtain ⟨a1, a2, a3, h⟩ := this
  exact ⟨_, ⟨a1, a2, a3, rfl⟩, h⟩
theorem sLs_take {w : World} {v v' : Value} {l : List (List Nat)} {cells : List Value} {G : List Nat} {n : Nat} (hr : sSl.rows w l cells G) (hn : n ≤ l.length) (hs : Sl w 1 v' n (cells.take (n * 1))) (hc : capOk v') (hf : ∀ i ∈ fp v', i ∈ fp v) :
    ∃ F, sLs.rd w [v'] (l.take n) F ∧ ∀ i ∈ F, (i ∈ fp v ∧ l ≠ []) ∨ i ∈ G := by
  obtain ⟨G', hr', hs'⟩ := rows_take n hr
  have hlen : (l.take n).length = n := by rw [List.length_take]; omega
  refine ⟨_, ⟨v', _, G', rfl, hc, by rw [hlen]; exact hs, hr', rfl⟩, fun i hi => ?_⟩
  rcases List.mem_append.1 hi with hi | hi
  · split at hi
    · cases hi
    · rename_i hne
      exact .inl ⟨hf i hi, fun e => hne (by rw [e]; simp)⟩
  · exact .inr (hs' i hi)
theorem sum_drop {l : List (List Nat)} {j : Nat} (hj : j < l.length) : ((l.drop j).map fun p => p.length + 32).sum = (l[j].length + 32) + ((l.drop (j + 1)).map fun p => p.length + 32).sum := by
  rw [List.drop_eq_getElem_cons hj]; simp only [List.map_cons, List.sum_cons]
theorem und44 : sizeT Try.prog 33 = some 3 := by kernel_rfl

theorem crash_c {w0 w : World} {pk n bnd : Nat} (keep : Nat) (h : Ks w0 w pk n bnd) (hb : bnd < 400) :
    CallF Try.prog 28 #[ptr pk, .int .i64 keep] w fun r w' => r = .bool true ∧ Ks w0 w' pk n (bnd + 1) := by
  obtain ⟨ps, pd, bb, lv, tv, sv, lsv, D, gen, life, at', safe, tail, whole, snap, list, F1, F2, h⟩ := h
  have htk := h.took_le
  have hn80 := h.n80
  have hlen := h.len
  have hll := h.ll
  have hcnt := h.cnt
  obtain ⟨m, at2, tail2, hm1, hm2, hm3, hm4, hop, hinv2⟩ := St.sinv_crash h.inv (by omega) keep
  refine C_furlonglaw15_desk_crash_link ?_
  unfold C_furlonglaw15_desk_crash
  refine nilC (fad (ldC_bk h.blk rfl ((dloose_c h.sk.dk).use ?_)))
  rintro _ w0' ⟨rfl, hw0⟩
  rw [hw0]
  refine nilC (fad (ldC_bk h.blk rfl ((dcrash_c h.sk.dk (by omega) keep).use ?_)))
  rintro _ w1 ⟨rfl, hd1, hF1⟩
  have hF1' : Fr (skX ps pd bb lv tv) w w1 := hF1.mono (fun i hi => .inl (skX_mem.2 (by simp at hi; rcases hi with h | h <;> simp [h])))
  have hpk1 := h.blk.fr hF1' h.kx
  refine neq (if_f (by simp) ?_)
  refine nilC (fad (ldC_bk hpk1 rfl ((open_c hd1 (.inl (by show 2 ≤ (D.at keep).length; rw [D.at_length]; omega))).use ?_)))
  rintro r w2 ⟨ps2, tv2, sv2, lv2, G2, rfl, hsk2, hsn2, hls2, hF2, n1, n2, n3, n4, n5, n6, n7, n8⟩
  rw [show (Dsk.mk (D.at keep) []).B = D.at keep from rfl, hop] at hsk2 hsn2 hls2
  simp only [show (Dsk.mk (D.at keep) []).B = D.at keep from rfl, hop]
  have hlt2 := hsk2.lt
  have hpk2 := hpk1.fr hF2 (fun hm => h.kx (skX_mem.2 (by simp at hm; simp [hm])))
  obtain ⟨G3, hls3, hG3⟩ := own_ls hls2
  refine ext0 (ext1 (ext2 ?_))
  refine alloc_n (n := 3) (by kernel_rfl) ?_
  intro b7 w3 l3 hl3 hb3 hB3 hF3 _
  refine store_all (vs := [.bool whole, sv2, lv2]) hB3 und44 hl3 rfl (by omega) ?_ ?_
  · intro v hv
    simp at hv
    rcases hv with rfl | rfl | rfl
    · rfl
    · obtain ⟨A, c, rfl⟩ := hsn2.len; rfl
    · exact sLs.one hls3 _ (by simp)
  intro w4 hB4 hF4 _
  have hF24 : Fr [] w2 w4 := hF3.trans hF4 (fun i hi => .inr (by simp at hi; omega))
  have hpk4 := hpk2.fr hF24 (by simp)
  have hsn4 := (hsn2.sl).fr hF24 (fun i _ => by simp)
  have hls4 := sLs.fr hls3 hF24 (fun i _ => by simp)
  obtain ⟨cells4, Gl4, _, hsl4, hrows4, _⟩ := list_open hls4
  have hml : (list.take m).length = m := by rw [List.length_take]; omega
  refine fad (ldC_bk hB4 rfl (hsl4.lenV ?_))
  rw [hml]
  -- what the desk holds
  have hF14 : Fr [pd] w1 w4 := hF2.trans hF24 (fun i hi => by simp at hi)
  have hF04 : Fr (skX ps pd bb lv tv) w w4 := hF1'.trans hF14 (fun i hi => .inl (skX_mem.2 (by simp at hi; simp [hi])))
  have hsnD := sSl.fr h.snp hF04 (fun i hi hm => h.x1 i hm hi)
  have hlsD := sLs.fr h.lst hF04 (fun i hi hm => h.x2 i hm hi)
  obtain ⟨cells, G, hcap, hsl, hrows, hGF, hFe⟩ := list_open hlsD
  have hsnS := (sSl_sl hsnD).1
  obtain ⟨vt, hvt, hslt, hcapt, hft⟩ := slcHi_ex (κ := .i64) hsl hcap hm2
  obtain ⟨Ft, hlst, hFt⟩ := sLs_take hrows hm2 hslt hcapt hft
  have hd4 : Fr [] w4 (World.drew w4) := Fr.drew [] w4
  let S : World → Prop := fun w' => Bk w' pk 44 [ptr pd, ptr ps, .int .i64 (16 * n - 1024), .bool whole, sv, lsv, .int .i64 safe, .int .i64 (took snap list : Nat)] ∧ Bk w' b7 33 [.bool whole, sv2, lv2]
  have hS4 : ∀ {w'}, Fr [] w4 w' → S w' := fun f => ⟨hpk4.fr f (by simp), hB4.fr f (by simp)⟩
  refine ⟨S, hS4 hd4, ?_⟩
  refine neq (gdT (by simp [isB]) rfl (gdT (by simp [isB]) (ptr_eql und31 rfl) (pick_f (by simp) ?_)))
  refine gdT (by simp [isB]) (fad rfl) (gdT (by simp [isB]) (ldC_S (fun w' h => h.2) rfl rfl) (gdT (by simp [isB]) rfl (gdT (by simp [isB]) (nilC rfl) (gdT (by simp [isB]) (fad rfl) (gdT (by simp [isB]) (ldC_S (fun w' h => h.1) rfl rfl) (gdT (by simp [isB]) (neq_bool (by kernel_rfl) rfl) (pick_f (by simp) ?_)))))))
  refine gdT (by simp [isB]) (fad rfl) (gdT (by simp [isB]) (ldC_S (fun w' h => h.2) rfl rfl) (gdT (by simp [isB]) rfl (gdT (by simp [isB]) (nilC rfl) (gdT (by simp [isB]) (fad rfl) (gdT (by simp [isB]) (ldC_S (fun w' h => h.1) rfl rfl) ?_)))))
  refine gT (by simp [isB]) ((bytes_c (hsn4.fr hd4 (fun i _ => by simp)) h.inv.snp.2 (hsnS.fr hd4 (fun i _ => by simp)) h.inv.snp.2).use ?_)
  rintro _ w5 ⟨rfl, hw5⟩
  rw [hw5]
  refine ⟨hS4 hd4, ?_⟩
  refine gdT (by simp [isB]) (notB rfl) (pick_f (by simp) ?_)
  refine gdT (by simp [isB]) rfl (gdT (by simp [isB]) rfl (gdT (by simp [isB]) (nilC rfl) (gdT (by simp [isB]) (fad rfl) (gdT (by simp [isB]) (ldC_S (fun w' h => h.1) rfl rfl) (gdT (by simp [isB]) (lss rfl) (pick_f (by simp; try omega) ?_))))))
  refine gdT (by simp [isB]; try omega) rfl (gdT (by simp [isB]; try omega) rfl (gdT (by simp [isB]; try omega) (nilC rfl) (gdT (by simp [isB]; try omega) (fad rfl) (gdT (by simp [isB]; try omega) (ldC_S (fun w' h => h.1) rfl rfl) (gdT (by simp [isB]; try omega) (hsl.lenV rfl) (gdT (by simp [isB]; try omega) (gtr rfl) (pick_f (by simp; try omega) ?_)))))))
  have hfF : isB (.bool (decide ((m : Int) > (list.length : Int)))) false = true := by simp [isB]; omega
  refine gdT hfF rfl (gdT hfF (eql rfl) (gdT hfF rfl ?_))
  refine gdB (.int .i64 m) (fun _ => rfl) (gdB (ptr pk) (fun _ => rfl) (gdB (ptr pk) (fun hg => by rw [hg]; exact nilC rfl) (gdB (.pointer (some ⟨pk, 6, none⟩)) (fun hg => by rw [hg]; exact fad rfl) (gdB (.int .i64 safe) (fun hg => by rw [hg]; exact ldC_S (fun w' h => h.1) rfl rfl) (gdB (.bool (decide ((m : Int) ≠ (safe : Int)))) (fun hg => by rw [hg]; exact neq rfl) ?_)))))
  refine gdT (v := .bool false) hfF (by
    by_cases hk : keep = 0
    · simp [Pick, isB, hk, hm3 hk]
    · simp [Pick, isB, hk]) (pick_f (by simp; try omega) ?_)
  refine gdT (by simp [isB]) rfl (gdT (by simp [isB]) rfl (gdT (by simp [isB]) (geq rfl) (gdT (by simp [isB]) rfl ?_)))
  refine gdB (.int .i64 m) (fun _ => rfl) (gdB (ptr pk) (fun _ => rfl) (gdB (ptr pk) (fun hg => by rw [hg]; exact nilC rfl) (gdB (.pointer (some ⟨pk, 5, none⟩)) (fun hg => by rw [hg]; exact fad rfl) (gdB lsv (fun hg => by rw [hg]; exact ldC_S (fun w' h => h.1) rfl rfl) (gdB (.int .i64 list.length) (fun hg => by rw [hg]; exact hsl.lenV rfl) (gdB (.bool (decide ((m : Int) ≠ (list.length : Int)))) (fun hg => by rw [hg]; exact neq rfl) ?_))))))
  refine gdT (v := .bool false) (by simp [isB]) (by
    by_cases hk : D.L.length ≤ keep
    · simp [Pick, isB, hk, hm4 hk]
    · simp [Pick, isB, hk]) (pick_f (by simp) ?_)
  refine gdT (by simp [isB]) (fad rfl) (gdT (by simp [isB]) (ldC_S (fun w' h => h.2) rfl rfl) (gdT (by simp [isB]) rfl (gdT (by simp [isB]) (nilC rfl) (gdT (by simp [isB]) (fad rfl) (gdT (by simp [isB]) (ldC_S (fun w' h => h.1) rfl rfl) (gdT (by simp [isB]) rfl (gdT (by simp [isB]) hvt ?_)))))))
  have hszs : ∀ p ∈ list.take m, ∀ c ∈ p, c < 256 := fun p hp => (h.inv.szs p (List.mem_of_mem_take hp)).2
  refine gT (by simp [isB]) ((lists_c (sLs.fr hls4 hd4 (fun i _ => by simp)) (sLs.fr hlst hd4 (fun i _ => by simp)) hszs hszs (by constructor <;> (rw [hml]; omega))).use ?_)
  rintro _ w6 ⟨rfl, hF56⟩
  have hF46 : Fr [] w4 w6 := hd4.t hF56
  refine ⟨hS4 hF46, gdT (by simp [isB]) (notB rfl) (pick_f (by simp) (if_f (by simp) ?_))⟩
  refine nilC (fad (ldC_bk (hS4 hF46).1 rfl ?_))
  refine slcLo (hsl.fr hF46 (fun i _ => by simp)) hcap hm2 ?_
  intro vd hsd _ hfd
  refine hsd.lenV ?_
  let T : Nat → Nat := fun j => took snap (list.take m) + ((list.drop (m + j)).map fun p => p.length + 32).sum
  refine ⟨fun q t w' => ∃ j : Nat, j + q = list.length - m ∧ t = .int .i64 j ∧ Fr [pk] w6 w' ∧ Bk w' pk 44 [ptr pd, ptr ps, .int .i64 (16 * n - 1024), .bool whole, sv, lsv, .int .i64 safe, .int .i64 (T j : Nat)], list.length - m, ⟨0, by omega, rfl, Fr.refl _ _, ?_⟩, ?_⟩
  · have e : took snap list = T 0 := by
      show _ = took snap (list.take m) + ((list.drop m).map fun p => p.length + 32).sum
      rw [← took_split, List.take_append_drop]
    rw [← e]
    exact (hS4 hF46).1
  rintro q t w7 ⟨j, hj, rfl, hF67, hB7⟩
  refine lss (if_p (fun hlt => ?_) (fun hge => ?_))
  · have hjl : m + j < list.length := by omega
    have hne : list ≠ [] := by intro e; rw [e] at hjl; simp at hjl
    have hfpk : ∀ i ∈ fp vd, i ∉ [pk] := fun i hi hm => h.k2 (by
      simp at hm; subst hm
      rw [hFe, if_neg hne]
      exact List.mem_append.2 (.inl (hfd i hi)))
    obtain ⟨Ga, ⟨v1, e1, _, s1, _⟩, hGa⟩ := rows_get sSl hrows (m + j) hjl
    have he : ((cells.drop (m * 1)).take ((list.length - m) * 1))[j]? = some v1 := by
      have hs : sSl.size = 1 := rfl
      rw [hs, Nat.mul_one] at e1
      have := congrArg (fun l : List Value => l[0]?) e1
      rw [Nat.mul_one, Nat.mul_one, List.getElem?_take, List.getElem?_drop, if_pos (by omega)]
      simpa [List.getElem?_take, List.getElem?_drop] using this
    refine ix1 (hsd.fr hF67 hfpk) (by omega) he ?_
    have hTj : T j ≤ 200000000 := by
      have a1 := took_split snap (list.take m) (list.drop m)
      have a2 := took_split snap (list.take (m + j)) (list.drop (m + j))
      rw [List.take_append_drop] at a1 a2
      show took snap (list.take m) + ((list.drop (m + j)).map fun p => p.length + 32).sum ≤ _
      omega
    have hTs : T j = (list[m + j].length + 32) + T (j + 1) := by
      show took snap (list.take m) + ((list.drop (m + j)).map fun p => p.length + 32).sum = (list[m + j].length + 32) + (took snap (list.take m) + ((list.drop (m + (j + 1))).map fun p => p.length + 32).sum)
      rw [sum_drop hjl, show m + (j + 1) = m + j + 1 by omega]
      omega
    generalize T j = tj at *
    obtain ⟨tj1, htj1⟩ : ∃ y, T (j + 1) = y := ⟨_, rfl⟩
    rw [htj1] at hTs
    refine nilC (fad (ldC_bk hB7 rfl (s1.lenV (add64 (by omega) (sub64 (by omega) ?_)))))
    refine nilC (fad (store' hB7 (by kernel_rfl) (by simp) rfl ?_))
    intro w8 hB8 hF8 _
    refine add64 (by omega) ⟨q - 1, by omega, j + 1, by omega, by congr 1, hF67.t hF8, ?_⟩
    have e : (tj : Int) - ((list[m + j].length : Int) + 32) = (tj1 : Int) := by omega
    rw [e] at hB8
    rw [htj1]
    simpa using hB8
  · obtain rfl : j = list.length - m := by omega
    have hT : T (list.length - m) = took snap (list.take m) := by
      show took snap (list.take m) + ((list.drop (m + (list.length - m))).map fun p => p.length + 32).sum = _
      rw [List.drop_eq_nil_of_le (by omega)]
      simp
    rw [hT] at hB7
    refine ⟨fun w' => Bk w' pk 44 [ptr pd, ptr ps, .int .i64 (16 * n - 1024), .bool whole, sv, lsv, .int .i64 safe, .int .i64 (took snap (list.take m) : Nat)], hB7.drew, ?_⟩
    refine nilC (fad (ldC_S (fun w' h => h) rfl (slcHi hsl hcap hm2 ?_)))
    intro v9 hs9 hc9 hf9
    obtain ⟨F9, hl9, hF9⟩ := sLs_take hrows hm2 hs9 hc9 hf9
    have hF9' : ∀ i ∈ F9, i ∈ F2 := fun i hi => (hF9 i hi).elim (fun h' => by rw [hFe, if_neg h'.2]; exact List.mem_append.2 (.inl h'.1)) (hGF i)
    refine nilC (fad (store' hB7.drew (by kernel_rfl) (by simp) rfl ?_))
    intro w8 hB8 hF8 _
    refine nilC (fad (store' hB8 (by kernel_rfl) (by simp) (sLs.one hl9 _ (by simp)) ?_))
    intro w9 hB9 hF9b _
    refine nilC (fad (store' hB9 (by kernel_rfl) (by simp) rfl ?_))
    intro w10 hB10 hF10 _
    have hFe4 : Fr [pk] w4 w10 := ((((hF46.mono (fun i hi => by simp at hi)).t hF67).t (Fr.drew _ _)).t hF8).t (hF9b.t hF10)
    have hFe2 : Fr [pk] w2 w10 := (hF24.mono (fun i hi => by simp at hi)).t hFe4
    have hpkl := h.blk.lt
    have hF1s := hF1.size
    have hw0 := h.fr.size
    have hkx : pk ∉ skX ps2 pd bb (.slice none 0 0) tv2 := fun hm => by
      rcases skX_mem.1 hm with e | e | e | e | e
      · omega
      · exact h.kx (skX_mem.2 (by simp [e]))
      · exact h.kx (skX_mem.2 (by simp [e]))
      · simp [fp_nil] at e
      · have := n2 pk e; omega
    have hsub : ∀ i ∈ skX ps2 pd bb (.slice none 0 0) tv2, i ∈ skX ps pd bb lv tv ∨ w.heap.size ≤ i := fun i hm => by
      rcases skX_mem.1 hm with e | e | e | e | e
      · exact .inr (by omega)
      · exact .inl (skX_mem.2 (by simp [e]))
      · exact .inl (skX_mem.2 (by simp [e]))
      · simp [fp_nil] at e
      · exact .inr (by have := n2 i e; omega)
    refine ⟨trivial, ps2, pd, bb, .slice none 0 0, tv2, sv, v9, _, gen, _, at2, m, tail2, whole, snap, list.take m, F1, F9, { fr := (h.fr.trans hF04 (fun i hi => .inr (h.newx i hi))).trans hFe4 (fun i hi => .inr (by simp at hi; subst hi; exact h.newk)), blk := by simpa using hB10, sk := ?_, inv := hinv2, snp := sSl.fr hsnD hFe4 (fun i hi hm => h.k1 (by simp at hm; subst hm; exact hi)), lst := sLs.fr hl9 hFe4 (fun i hi hm => h.k2 (by simp at hm; subst hm; exact hF9' i hi)), newk := h.newk, newx := fun i hi => (hsub i hi).elim (h.newx i) (fun _ => by omega), new1 := h.new1, new2 := fun i hi => h.new2 i (hF9' i hi), kx := hkx, k1 := h.k1, k2 := fun hm => h.k2 (hF9' _ hm), x1 := ?_, x2 := ?_, len := by rw [← h.len]; exact D.at_length keep, ll := Nat.zero_le _, n80 := h.n80, cnt := by rw [hml]; omega, bnd' := by omega }⟩
    · rw [hml] at hsk2 ⊢
      exact hsk2.fr hFe2 (fun i hi hm => hkx (by simp at hm; subst hm; exact hi))
    · intro i hi hm
      exact (hsub i hi).elim (fun h' => h.x1 i h' hm) (fun h' => by have := sSl.lt h.snp i hm; omega)
    · intro i hi hm
      exact (hsub i hi).elim (fun h' => h.x2 i h' (hF9' i hm)) (fun h' => by have := sLs.lt h.lst i (hF9' i hm); omega)
end Go.Proofs.Ytmlaconjeplhpaa

set_option linter.unusedVariables false
set_option linter.unusedSimpArgs false
set_option maxRecDepth 20000
namespace Go.Proofs.Ytmlaconjeplhpaa
open Go Go.Vc
open St (Dsk All64 Blk pad four put4 halfN base hb walk eldest rootF openF putF rootL SInv encAll encRec)

theorem do_c {w0 w : World} {pk n bnd : Nat} {kind keep : Int} {pv : Value} {p F : List Nat} (h : Ks w0 w pk n bnd) (hb : bnd < 400) (hx : sSl.rd w0 [pv] p F) (hpb : ∀ c ∈ p, c < 256) (hpl : p.length ≤ 1000000000) :
    CallF Try.prog 31 #[ptr pk, .agg #[.int .i64 kind, .int .i64 keep, pv]] w fun r w' => r = .bool true ∧ Ks w0 w' pk n (bnd + 1) := by
  refine C_furlonglaw15_desk_do_link ?_
  unfold C_furlonglaw15_desk_do
  refine box' (l := [.int .i64 kind, .int .i64 keep, pv]) rfl ?_
  intro bo w1 hbo hBo hF1 _
  have h1 := h.fresh hF1
  refine fad (ldC_bk hBo rfl (eql ?_))
  refine ⟨fun ok w' => ok = .bool true ∧ Ks w0 w' pk n (bnd + 1), ?_, if_p (fun h0 => ?_) (fun h0 => ?_)⟩
  · rintro _ w2 ⟨rfl, ps, pd, bb, lv, tv, sv, lsv, D, gen, life, at', safe, tail, whole, snap, list, F1, F2, hk⟩
    obtain ⟨cells, G, hcap, hsl, hrows, hGF, hFe⟩ := list_open hk.lst
    have hd := Fr.drew [] w2
    have hkd := hk.fresh hd
    refine ⟨fun w' => Bk w' pk 44 [ptr pd, ptr ps, .int .i64 (16 * n - 1024), .bool whole, sv, lsv, .int .i64 safe, .int .i64 (took snap list : Nat)], hkd.blk, ?_⟩
    refine gdT (by simp [isB]) rfl (gdT (by simp [isB]) (nilC rfl) (gdT (by simp [isB]) (fad rfl) (gdT (by simp [isB]) (ldC_S (fun w' h => h) rfl rfl) (gdT (by simp [isB]) rfl (gdT (by simp [isB]) (nilC rfl) (gdT (by simp [isB]) (fad rfl) (gdT (by simp [isB]) (ldC_S (fun w' h => h) rfl rfl) (gdT (by simp [isB]) (hsl.lenV rfl) ?_))))))))
    refine gT (by simp [isB]) ((slen_c hkd.sk).use ?_)
    rintro _ w3 ⟨rfl, hw3⟩
    rw [hw3]
    refine ⟨hkd.blk, gdT (by simp [isB]) (eql rfl) (pick_t rfl ?_)⟩
    refine gdT (by simp [isB]) rfl (gdT (by simp [isB]) (nilC rfl) (gdT (by simp [isB]) (fad rfl) (gdT (by simp [isB]) (ldC_S (fun w' h => h) rfl rfl) (gdT (by simp [isB]) rfl (gdT (by simp [isB]) (nilC rfl) (gdT (by simp [isB]) (fad rfl) (gdT (by simp [isB]) (ldC_S (fun w' h => h) rfl rfl) ?_)))))))
    refine gT (by simp [isB]) ((ssafe_c hkd.sk).use ?_)
    rintro _ w4 ⟨rfl, hw4⟩
    rw [hw4]
    refine ⟨hkd.blk, gdT (by simp [isB]) (eql rfl) (pick_t (by simp) ⟨by simp, ?_⟩)⟩
    exact ⟨ps, pd, bb, lv, tv, sv, lsv, D, gen, life, at', safe, tail, whole, snap, list, F1, F2, hkd⟩
  · refine fad (ldC_bk hBo rfl ((append_c h1 hb hx hpb hpl).use ?_))
    rintro _ w2 ⟨rfl, h2⟩
    exact ⟨rfl, h2⟩
  refine eql ⟨fun ok w' => ok = .bool true ∧ Ks w0 w' pk n (bnd + 1), fun ok w' h' => h', if_p (fun h0 => ?_) (fun h0 => ?_)⟩
  · obtain ⟨ps, pd, bb, lv, tv, sv, lsv, D, gen, life, at', safe, tail, whole, snap, list, F1, F2, hk⟩ := h1
    obtain ⟨cells, G, hcap, hsl, hrows, hGF, hFe⟩ := list_open hk.lst
    refine nilC (fad (ldC_bk hk.blk rfl ((ssync_c hk.sk).use ?_)))
    rintro _ w2 ⟨rfl, hsk2, hF2⟩
    have hF2' : Fr (skX ps pd bb lv tv) w1 w2 := hF2.mono (fun i hi => .inl (skX_mem.2 (by simp at hi; rcases hi with h | h <;> simp [h])))
    have hpk2 := hk.blk.fr hF2' hk.kx
    refine eql (nilC (fad (ldC_bk hpk2 rfl (hsl.lenV ?_))))
    refine nilC (fad (store' hpk2 (by kernel_rfl) (by simp) rfl ?_))
    intro w3 hB3 hF3 _
    have hsub : ∀ i ∈ skX ps pd bb (.slice none 0 0) tv, i ∈ skX ps pd bb lv tv := fun i hm => skX_mem.2 (by
      rcases skX_mem.1 hm with e | e | e | e | e
      · simp [e]
      · simp [e]
      · simp [e]
      · simp [fp_nil] at e
      · simp [e])
    have hkx : pk ∉ skX ps pd bb (.slice none 0 0) tv := fun hm => hk.kx (hsub _ hm)
    have hll := hk.ll
    have hcnt := hk.cnt
    exact ⟨rfl, ps, pd, bb, .slice none 0 0, tv, sv, lsv, _, gen, life, at', list.length, tail, whole, snap, list, F1, F2, { fr := (hk.fr.trans hF2' (fun i hi => .inr (hk.newx i hi))).trans hF3 (fun i hi => .inr (by simp at hi; subst hi; exact hk.newk)), blk := by simpa using hB3, sk := hsk2.fr hF3 (fun i hi hm => hkx (by simp at hm; subst hm; exact hi)), inv := SInv.mono (St.sinv_sync hk.inv) _ (by omega) (by omega), snp := sSl.fr (sSl.fr hk.snp hF2' (fun i hi hm => hk.x1 i hm hi)) hF3 (fun i hi hm => hk.k1 (by simp at hm; subst hm; exact hi)), lst := sLs.fr (sLs.fr hk.lst hF2' (fun i hi hm => hk.x2 i hm hi)) hF3 (fun i hi hm => hk.k2 (by simp at hm; subst hm; exact hi)), newk := hk.newk, newx := fun i hi => hk.newx i (hsub i hi), new1 := hk.new1, new2 := hk.new2, kx := hkx, k1 := hk.k1, k2 := hk.k2, x1 := fun i hi => hk.x1 i (hsub i hi), x2 := fun i hi => hk.x2 i (hsub i hi), len := hk.len, ll := Nat.zero_le _, n80 := hk.n80, cnt := by omega, bnd' := by omega }⟩
  refine eql ⟨fun ok w' => ok = .bool true ∧ Ks w0 w' pk n (bnd + 1), fun ok w' h' => h', if_p (fun h0 => ?_) (fun h0 => ?_)⟩
  · refine fad (ldC_bk hBo rfl ((checkpoint_c h1 hb hx hpb hpl).use ?_))
    rintro _ w2 ⟨rfl, h2⟩
    exact ⟨rfl, h2⟩
  refine eql ⟨fun ok w' => ok = .bool true ∧ Ks w0 w' pk n (bnd + 1), fun ok w' h' => h', if_p (fun h0 => ?_) (fun h0 => ?_)⟩
  · refine fad (ldC_bk hBo rfl (max2 ?_))
    obtain ⟨kp, hkp⟩ : ∃ kp : Nat, (if keep < 0 then 0 else keep) = (kp : Int) := ⟨(if keep < 0 then 0 else keep).toNat, by split <;> omega⟩
    rw [hkp]
    refine (crash_c kp h1 hb).use ?_
    rintro _ w2 ⟨rfl, h2⟩
    exact ⟨rfl, h2⟩
  · exact ⟨rfl, h1.up (by omega) (by omega)⟩
theorem blocks_c {w : World} {n : Int} : CallF Try.prog 30 #[.int .i64 n] w fun r w' => (∃ b : Nat, 80 ≤ b ∧ b ≤ 4080 ∧ r = .int .i64 b) ∧ w' = w := by
  refine C_furlonglaw15_blocks_link ?_
  unfold C_furlonglaw15_blocks
  refine max2 (min2 (add64 ?_ ⟨?_, rfl⟩))
  · constructor <;> (repeat' split) <;> omega
  · refine ⟨((80 : Int) + _).toNat, ?_, ?_, congrArg _ ((Int.toNat_of_nonneg ?_).symm)⟩
    all_goals (repeat' split) <;> omega
end Go.Proofs.Ytmlaconjeplhpaa

set_option linter.unusedVariables false
set_option linter.unusedSimpArgs false
set_option maxRecDepth 20000
namespace Go.Proofs.Ytmlaconjeplhpaa
open Go Go.Vc
open St (Dsk All64 Blk pad four put4 halfN base hb walk eldest rootF openF putF rootL SInv encAll encRec)

structure AwAt (w w' : World) (ps pd bb : Nat) (lv tv : Value) (D : Dsk) (gen life at' safe : Nat) (tail : List Nat) (whole : Bool) (snap : List Nat) (list : List (List Nat)) (bnd : Nat) (Y : List Nat) : Prop where
  fr : Fr [] w w'
  sk : Sk w' ps pd bb lv tv D gen life at' list.length safe tail
  inv : SInv D gen life at' tail whole snap list safe bnd
  new : ∀ i ∈ skX ps pd bb lv tv, w.heap.size ≤ i
  len : D.B.length = 1000
  ll : D.L.length ≤ bnd * 200000
  b : bnd ≤ 400
  cnt : list.length ≤ bnd
  dis : ∀ i ∈ skX ps pd bb lv tv, i ∉ Y
  ylt : ∀ i ∈ Y, i < w'.heap.size
def Aw (w w' : World) (ps pd : Nat) (safe : Nat) (whole : Bool) (snap : List Nat) (list : List (List Nat)) (bnd : Nat) (Y : List Nat) : Prop := ∃ bb lv tv D gen life at' tail, AwAt w w' ps pd bb lv tv D gen life at' safe tail whole snap list bnd Y
section
variable {w w1 : World} {ps pd safe bnd : Nat} {whole : Bool} {snap p : List Nat} {list : List (List Nat)} {Y : List Nat} {x : Value}
theorem Aw.frn (h : Aw w w1 ps pd safe whole snap list bnd Y) : Fr [] w w1 := by obtain ⟨bb, lv, tv, D, gen, life, at', tail, h⟩ := h; exact h.fr
theorem Aw.ylt' (h : Aw w w1 ps pd safe whole snap list bnd Y) : ∀ i ∈ Y, i < w1.heap.size := by obtain ⟨bb, lv, tv, D, gen, life, at', tail, h⟩ := h; exact h.ylt
/-- What was made since is not of the store. -/
theorem Aw.step (h : Aw w w1 ps pd safe whole snap list bnd Y) {w2 : World} {Y2 : List Nat} (f : Fr [] w1 w2) (hy : ∀ i ∈ Y2, i ∈ Y ∨ (w1.heap.size ≤ i ∧ i < w2.heap.size)) : Aw w w2 ps pd safe whole snap list bnd Y2 := by
  obtain ⟨bb, lv, tv, D, gen, life, at', tail, h⟩ := h
  have hlt := h.sk.lt
  have hs := f.size
  exact ⟨bb, lv, tv, D, gen, life, at', tail, { h with fr := h.fr.t f, sk := h.sk.fresh f, dis := fun i hi hm => (hy i hm).elim (h.dis i hi) (fun h' => by have := hlt i hi; omega), ylt := fun i hi => (hy i hi).elim (fun h' => by have := h.ylt i h'; omega) (fun h' => h'.2) }⟩
theorem Aw.touch (h : Aw w w1 ps pd safe whole snap list bnd Y) {w2 : World} {X : List Nat} (f : Fr X w1 w2) (hX : ∀ i ∈ X, i ∈ Y) (hw : ∀ i ∈ X, w.heap.size ≤ i) : Aw w w2 ps pd safe whole snap list bnd Y := by
  obtain ⟨bb, lv, tv, D, gen, life, at', tail, h⟩ := h
  have hs := f.size
  exact ⟨bb, lv, tv, D, gen, life, at', tail, { h with fr := h.fr.trans f (fun i hi => .inr (hw i hi)), sk := h.sk.fr f (fun i hi hm => h.dis i hi (hX i hm)), ylt := fun i hi => by have := h.ylt i hi; omega }⟩
theorem aw_append (h : Aw w w1 ps pd safe whole snap list bnd Y) (hb : bnd < 400) (hx : Sl w1 1 x p.length (bytes p)) (hpb : ∀ c ∈ p, c < 256) (hp : p.length ≤ 1000) (hr : took snap list ≤ 10000) :
    CallF Try.prog 19 #[ptr ps, x] w1 fun r w' => r = .int .i64 0 ∧ Aw w w' ps pd safe whole snap (list ++ [p]) (bnd + 1) Y ∧ ∃ X, Fr X w1 w' ∧ (∀ i ∈ X, i ∉ Y) ∧ (∀ i ∈ X, w.heap.size ≤ i) := by
  obtain ⟨bb, lv, tv, D, gen, life, at', tail, h⟩ := h
  obtain ⟨hat, hatl⟩ := sinv_at h.inv
  have hlen := h.len
  have hll := h.ll
  have hcnt := h.cnt
  have hhalf : halfN D.B = 499 := by unfold halfN; omega
  have h2 := enc_took list
  have h3 : (encAll list).length + snap.length ≤ took snap list := by unfold took; omega
  refine (sappend_c h.sk hx hpb h.inv.tl.2 (by omega) (by have := h.inv.tl.1; omega) (by omega) (by omega)).use ?_
  rintro r w2 (⟨rfl, hlong, hF1⟩ | ⟨rfl, hle, hfull, hF1⟩ | ⟨rfl, hle, hfit, D', at2, t2, hput, hL', lv', tv', hsk1, hF1, hsub⟩)
  · omega
  · omega
  · obtain ⟨D2, a2, u2, hput2, hinv2, hlen2⟩ := St.sinv_append h.inv hle hpb (by have : (encRec p).length = 4 + p.length := by { simp [encRec, put4]; omega }; omega)
    obtain ⟨rfl, e2⟩ := Prod.mk.inj (hput.symm.trans hput2)
    obtain ⟨rfl, rfl⟩ := Prod.mk.inj e2
    have hs := h.fr.size
    have hs1 := hF1.size
    refine ⟨rfl, ⟨bb, lv', tv', _, gen, life, _, _, { fr := h.fr.trans hF1 (fun i hi => .inr (h.new i hi)), sk := by rw [List.length_append]; exact hsk1, inv := SInv.mono hinv2 _ (by omega) (by omega), new := fun i hi => (hsub i hi).elim (h.new i) (fun _ => by omega), len := hlen2.trans h.len, ll := bnd_up (by omega), b := by omega, cnt := by rw [List.length_append]; simp; omega, dis := fun i hi hm => (hsub i hi).elim (fun h' => h.dis i h' hm) (fun h' => by have := h.ylt i hm; omega), ylt := fun i hi => by have := h.ylt i hi; omega }⟩, _, hF1, h.dis, h.new⟩
theorem aw_sync (h : Aw w w1 ps pd safe whole snap list bnd Y) :
    CallF Try.prog 21 #[ptr ps] w1 fun r w' => r = .int .i64 0 ∧ Aw w w' ps pd list.length whole snap list bnd Y ∧ ∃ X, Fr X w1 w' ∧ (∀ i ∈ X, i ∉ Y) ∧ (∀ i ∈ X, w.heap.size ≤ i) := by
  obtain ⟨bb, lv, tv, D, gen, life, at', tail, h⟩ := h
  refine (ssync_c h.sk).use ?_
  rintro _ w2 ⟨rfl, hsk2, hF2⟩
  have hF2' : Fr (skX ps pd bb lv tv) w1 w2 := hF2.mono (fun i hi => .inl (skX_mem.2 (by simp at hi; rcases hi with h | h <;> simp [h])))
  have hsub : ∀ i ∈ skX ps pd bb (.slice none 0 0) tv, i ∈ skX ps pd bb lv tv := fun i hm => skX_mem.2 (by
      rcases skX_mem.1 hm with e | e | e | e | e
      · simp [e]
      · simp [e]
      · simp [e]
      · simp [fp_nil] at e
      · simp [e])
  have hs1 := hF2.size
  exact ⟨rfl, ⟨bb, .slice none 0 0, tv, _, gen, life, at', tail, { fr := h.fr.trans hF2' (fun i hi => .inr (h.new i hi)), sk := hsk2, inv := St.sinv_sync h.inv, new := fun i hi => h.new i (hsub i hi), len := h.len, ll := Nat.zero_le _, b := h.b, cnt := h.cnt, dis := fun i hi => h.dis i (hsub i hi), ylt := fun i hi => by have := h.ylt i hi; omega }⟩, _, hF2', h.dis, h.new⟩
theorem aw_check (h : Aw w w1 ps pd safe whole snap list bnd Y) (hb : bnd < 400) (hx : Sl w1 1 x p.length (bytes p)) (hpb : ∀ c ∈ p, c < 256) (hp : p.length ≤ 1000) (hxd : 0 < p.length → ∀ i ∈ fp x, i ∈ Y) :
    CallF Try.prog 20 #[ptr ps, x] w1 fun r w' => r = .int .i64 0 ∧ Aw w w' ps pd 0 true p [] (bnd + 1) Y ∧ ∃ X, Fr X w1 w' ∧ (∀ i ∈ X, i ∉ Y) ∧ (∀ i ∈ X, w.heap.size ≤ i) := by
  obtain ⟨bb, lv, tv, D, gen, life, at', tail, h⟩ := h
  have hlen := h.len
  have hll := h.ll
  have hbn := h.inv.bnd
  have hhalf : halfN D.B = 499 := by unfold halfN; omega
  refine (schk_c h.sk hx hpb (by omega) (fun h0 i hi hm => h.dis i hm (hxd h0 i hi)) (by omega) (by omega)).use ?_
  rintro r w2 (⟨rfl, hlong, hF1⟩ | ⟨rfl, hle, hfull, hF1⟩ | ⟨rfl, hle, hfit, D', at2, t2, hput, lv', tv', hsk1, hF1, hsub⟩)
  · omega
  · omega
  · obtain ⟨D2, a2, u2, hput2, hlen2, hinv2⟩ := St.sinv_checkpoint h.inv (by omega) hle hpb hfit
    obtain ⟨rfl, e2⟩ := Prod.mk.inj (hput.symm.trans hput2)
    obtain ⟨rfl, rfl⟩ := Prod.mk.inj e2
    have hs := h.fr.size
    have hs1 := hF1.size
    have hw : ((Dsk.mk D'.B []).write ((gen + 1) % 2) (pad (rootL (gen + 1) p.length))).B.length = D'.B.length := by unfold Dsk.write; split <;> simp
    refine ⟨rfl, ⟨bb, lv', tv', _, gen + 1, life, _, _, { fr := h.fr.trans hF1 (fun i hi => .inr (h.new i hi)), sk := hsk1, inv := hinv2, new := fun i hi => (hsub i hi).elim (h.new i) (fun _ => by omega), len := hw.trans (hlen2.trans h.len), ll := Nat.zero_le _, b := by omega, cnt := Nat.zero_le _, dis := fun i hi hm => (hsub i hi).elim (fun h' => h.dis i h' hm) (fun h' => by have := h.ylt i hm; omega), ylt := fun i hi => by have := h.ylt i hi; omega }⟩, _, hF1, h.dis, h.new⟩
theorem aw_open (h : Aw w w1 ps pd safe whole snap list bnd Y) (hb : bnd < 400) :
    CallF Try.prog 18 #[ptr pd] w1 fun r w' => ∃ ps2 sv lv2 G, r = .tuple #[ptr ps2, .agg #[.bool whole, sv, lv2], .int .i64 0] ∧ Own w' 5 1 sv snap.length (bytes snap) ∧ (sOwn.list (by decide)).rd w' [lv2] list G ∧
      (∀ i ∈ fp sv, w1.heap.size ≤ i) ∧ (∀ i ∈ G, w1.heap.size ≤ i) ∧ (∀ i ∈ G, i ∉ fp sv) ∧ Aw w w' ps2 pd list.length whole snap list (bnd + 1) (fp sv ++ G ++ Y) ∧ ∃ X, Fr X w1 w' ∧ (∀ i ∈ X, i ∉ Y) ∧ (∀ i ∈ X, w.heap.size ≤ i) := by
  obtain ⟨bb, lv, tv, D, gen, life, at', tail, h⟩ := h
  have hlen := h.len
  obtain ⟨m, at2, tail2, hm1, hm2, hm3, hm4, hop, hinv2⟩ := St.sinv_crash h.inv (by have := h.b; omega) D.L.length
  obtain rfl := hm4 (Nat.le_refl _)
  rw [D.at_all, List.take_length] at hop hinv2
  refine (open_c h.sk.dk (.inl (by omega))).use ?_
  rintro r w2 ⟨ps2, tv2, sv2, lv2, G2, rfl, hsk2, hsn2, hls2, hF2, n1, n2, n3, n4, n5, n6, n7, n8⟩
  rw [hop] at hsk2 hsn2 hls2
  simp only [hop]
  have hs := h.fr.size
  have hs1 := hF2.size
  have hF2' : Fr (skX ps pd bb lv tv) w1 w2 := hF2.mono (fun i hi => .inl (skX_mem.2 (by simp at hi; simp [hi])))
  have l1 := hsn2.lt
  have l2 := (sOwn.list (by decide)).lt hls2
  obtain ⟨k1, k2, k3⟩ := h.sk.dk.lt
  refine ⟨ps2, sv2, lv2, G2, rfl, hsn2, hls2, n3, n4, n8, ⟨bb, .slice none 0 0, tv2, _, gen, _, at2, tail2, { fr := h.fr.trans hF2' (fun i hi => .inr (h.new i hi)), sk := hsk2, inv := hinv2, new := ?_, len := h.len, ll := Nat.zero_le _, b := by omega, cnt := by have := h.cnt; omega, dis := ?_, ylt := ?_ }⟩, _, hF2', h.dis, h.new⟩
  · intro i hm
    rcases skX_mem.1 hm with e | e | e | e | e
    · omega
    · exact h.new i (skX_mem.2 (by simp [e]))
    · exact h.new i (skX_mem.2 (by simp [e]))
    · simp [fp_nil] at e
    · have := n2 i e; omega
  · intro i hm hy
    rcases skX_mem.1 hm with e | e | e | e | e
    · subst e
      rcases List.mem_append.1 hy with hy | hy
      · rcases List.mem_append.1 hy with hy | hy
        · exact n5 hy
        · exact n6 hy
      · have := h.ylt _ hy; omega
    · subst e
      rcases List.mem_append.1 hy with hy | hy
      · rcases List.mem_append.1 hy with hy | hy
        · have := n3 _ hy; omega
        · have := n4 _ hy; omega
      · exact h.dis _ (skX_mem.2 (by simp)) hy
    · subst e
      rcases List.mem_append.1 hy with hy | hy
      · rcases List.mem_append.1 hy with hy | hy
        · have := n3 _ hy; omega
        · have := n4 _ hy; omega
      · exact h.dis _ (skX_mem.2 (by simp)) hy
    · simp [fp_nil] at e
    · rcases List.mem_append.1 hy with hy | hy
      · rcases List.mem_append.1 hy with hy | hy
        · exact (n7 i e).1 hy
        · exact (n7 i e).2 hy
      · have := h.ylt _ hy; have := n2 i e; omega
  · intro i hy
    rcases List.mem_append.1 hy with hy | hy
    · rcases List.mem_append.1 hy with hy | hy
      · exact l1 i hy
      · exact l2 i hy
    · have := h.ylt i hy; omega
/-- A store on a new disk. -/
theorem new_open {n pd bb : Nat} (hd : Dk w1 pd bb (.slice none 0 0) (newD n)) (hn : 4 ≤ n ∧ n ≤ 65536) :
    CallF Try.prog 18 #[ptr pd] w1 fun r w' => ∃ ps tv sv lv2 G life at' tail, r = .tuple #[ptr ps, .agg #[.bool false, sv, lv2], .int .i64 0] ∧ Sk w' ps pd bb (.slice none 0 0) tv (newD n) 1 life at' 0 0 tail ∧ SInv (newD n) 1 life at' tail false [] [] 0 1 ∧
      Own w' 5 1 sv 0 [] ∧ (sOwn.list (by decide)).rd w' [lv2] [] G ∧ Fr [pd] w1 w' ∧ w1.heap.size ≤ ps ∧ (∀ i ∈ fp tv, w1.heap.size ≤ i) := by
  obtain ⟨at', tail, hop, hinv⟩ := St.sinv_new (n := n) (bnd := 1) hn (by omega)
  have hB : (newD n).B = List.replicate n (List.replicate 64 0) := rfl
  refine (open_c hd (.inl (by rw [hB, List.length_replicate]; omega))).use ?_
  rintro r w2 ⟨ps2, tv2, sv2, lv2, G2, rfl, hsk2, hsn2, hls2, hF2, n1, n2, n3, n4, n5, n6, n7, n8⟩
  rw [hB, hop] at hsk2 hsn2 hls2
  simp only [hB, hop]
  exact ⟨ps2, tv2, sv2, lv2, G2, _, at', tail, rfl, hsk2, hinv, hsn2, hls2, hF2, n1, n2⟩
theorem aw_new {pd bb : Nat} (hd : Dk w1 pd bb (.slice none 0 0) (newD 1000)) (hF : Fr [] w w1) (hp : w.heap.size ≤ pd) (hbb : w.heap.size ≤ bb) :
    CallF Try.prog 18 #[ptr pd] w1 fun r w' => ∃ ps sv lv2 G, r = .tuple #[ptr ps, .agg #[.bool false, sv, lv2], .int .i64 0] ∧ Own w' 5 1 sv 0 [] ∧ (sOwn.list (by decide)).rd w' [lv2] [] G ∧ Aw w w' ps pd 0 false [] [] 1 [] := by
  refine (new_open hd (by omega)).use ?_
  rintro r w2 ⟨ps, tv, sv, lv2, G, life, at', tail, rfl, hsk, hinv, hsn, hls, hF2, n1, n2⟩
  have hs := hF.size
  refine ⟨ps, sv, lv2, G, rfl, hsn, hls, bb, .slice none 0 0, tv, _, 1, life, at', tail, { fr := hF.trans hF2 (fun i hi => .inr (by simp at hi; omega)), sk := hsk, inv := hinv, new := ?_, len := List.length_replicate, ll := Nat.zero_le _, b := by omega, cnt := Nat.zero_le _, dis := fun i hi hm => (by cases hm), ylt := fun i hm => (by cases hm) }⟩
  intro i hm
  rcases skX_mem.1 hm with e | e | e | e | e
  · omega
  · omega
  · omega
  · simp [fp_nil] at e
  · have := n2 i e; omega
end
theorem found_one {w : World} {b : Bool} {sv lv : Value} {l : List (List Nat)} {s : List Nat} {n : Nat} {G : List Nat} {vs : List Value} (h1 : Own w 5 1 sv n vs) (h2 : (sOwn.list (by decide)).rd w [lv] l G) : ∀ v ∈ [Value.bool b, sv, lv], v.oneCell' = true := by
  intro v hv
  simp at hv
  rcases hv with rfl | rfl | rfl
  · rfl
  · obtain ⟨A, c, rfl⟩ := h1.len; rfl
  · exact (sOwn.list (by decide)).one h2 _ (by simp)
theorem litB {w : World} {k : Value → World → Prop} {n : Nat} (h : ∀ b w', w.heap.size = b → Bk w' b 5 (bytes [n]) → Fr [] w w' → w'.heap.size = b + 1 → k (.slice (some ⟨b, 0, none⟩) 1 1) w') : Do Try.prog (Instr.buildSlice 24 1 #[(0, .int .u8 n)]) w k :=
  lit' (vs := bytes [n]) Try.underlying24 infoB rfl rfl rfl (by omega) (fun v hv => by obtain ⟨_, _, rfl⟩ := List.mem_map.1 hv; rfl) h
theorem ix1_ex {w : World} {n i : Nat} {κ : IntKind} {v u : Value} {cells : List Value} (hs : Sl w 1 v n cells) (hi : i < n) (hv : cells[i]? = some u) : ∃ a, IAdS 1 v (.int κ i) (fun x => x = .pointer (some a)) ∧ LdC (At w) (.pointer (some a)) (fun x => x = u) := by
  obtain ⟨A, c, rfl, hl, hn, hc⟩ := hs
  cases A with
  | none => have := (hn rfl).1; omega
  | some b =>
    refine ⟨b.add (i * 1), ⟨by omega, by omega, by simp⟩, u, fun w' e => ?_, rfl⟩
    rw [show w' = w from e, Nat.mul_one]
    exact hc b rfl i u hv
theorem awake_c {w : World} : CallF Try.prog 15 #[] w fun r w' => r = .bool true ∧ Fr [] w w' := by
  refine C_furlonglaw15_awake_link ?_
  unfold C_furlonglaw15_awake
  refine (dnew_c (n := 1000) (by omega) (by omega)).use ?_
  rintro r w1 ⟨pd, bb, rfl, hd1, hF1, hpd, hbb⟩
  refine ext0 (ext1 ?_)
  refine (aw_new hd1 hF1 hpd hbb).use ?_
  rintro r w2 ⟨ps, sv, lv2, G, rfl, hsn, hls, h2⟩
  refine ext0 (ext1 (ext2 ?_))
  refine alloc_n (n := 3) (by kernel_rfl) ?_
  intro b3 w3 l3 hl3 hb3 hB3 hF3 _
  refine store_all (vs := [.bool false, sv, lv2]) hB3 und44 hl3 rfl (by omega) (found_one (s := []) hsn hls) ?_
  intro w4 hB4 hF4 _
  have h4 := h2.step (hF3.trans hF4 (fun i hi => .inr (by simp at hi; omega))) (fun i hi => .inl hi)
  refine neq (gdT (by simp [isB]) rfl (gdT (by simp [isB]) (neq rfl) (pick_f (by simp) ?_)))
  refine gdT (by simp [isB]) rfl (gdT (by simp [isB]) (ptr_eql und31 rfl) (pick_f (by simp) ?_))
  refine gdT (by simp [isB]) (fad rfl) (gdT (by simp [isB]) (ldC_bk hB4 rfl rfl) (pick_f (by simp) ?_))
  refine gdT (by simp [isB]) rfl (gT (by simp [isB]) (litB ?_))
  intro b5 w5 hb5 hB5 hF5 hs5
  have h5 := h4.step hF5 (Y2 := [b5]) (fun i hi => .inr (by simp at hi; omega))
  refine gT (by simp [isB]) ((aw_append (p := [5]) h5 (by omega) (hB5.sl rfl 1) (by simp) (by simp) (by simp [took])).use ?_)
  rintro _ w6 ⟨rfl, h6, _⟩
  refine gdT (by simp [isB]) (neq rfl) (pick_f (by simp) (gdT (by simp [isB]) rfl ?_))
  refine gT (by simp [isB]) ((aw_sync h6).use ?_)
  rintro _ w7 ⟨rfl, h7, _⟩
  refine gdT (by simp [isB]) (neq rfl) (pick_f (by simp) (gdT (by simp [isB]) rfl ?_))
  refine gT (by simp [isB]) (litB ?_)
  intro b8 w8 hb8 hB8 hF8 hs8
  have h8 := h7.step hF8 (Y2 := [b8]) (fun i hi => .inr (by simp at hi; omega))
  refine gT (by simp [isB]) ((aw_check (p := [7]) h8 (by omega) (hB8.sl rfl 1) (by simp) (by simp) (fun _ i hi => by simpa [fp_some] using hi)).use ?_)
  rintro _ w9 ⟨rfl, h9, _⟩
  refine gdT (by simp [isB]) (neq rfl) (pick_f (by simp) (gdT (by simp [isB]) rfl ?_))
  refine gT (by simp [isB]) (litB ?_)
  intro b10 w10 hb10 hB10 hF10 hs10
  have h10 := h9.step hF10 (Y2 := [b10]) (fun i hi => .inr (by simp at hi; omega))
  refine gT (by simp [isB]) ((aw_append (p := [6]) h10 (by omega) (hB10.sl rfl 1) (by simp) (by simp) (by simp [took])).use ?_)
  rintro _ w11 ⟨rfl, h11, _⟩
  refine gdT (by simp [isB]) (neq rfl) (pick_f (by simp) (gdT (by simp [isB]) rfl ?_))
  refine gT (by simp [isB]) ((aw_sync h11).use ?_)
  rintro _ w12 ⟨rfl, h12, _⟩
  refine gdT (by simp [isB]) (neq rfl) (pick_f (by simp) (if_f (by simp) ?_))
  refine (aw_open h12 (by omega)).use ?_
  rintro r w13 ⟨ps2, sv2, lv3, G2, rfl, hsn2, hls2, m1, m2, m3, h13, _⟩
  refine ext0 (ext1 (ext2 ?_))
  refine alloc_n (n := 3) (by kernel_rfl) ?_
  intro b14 w14 l14 hl14 hb14 hB14 hF14 _
  refine store_all (vs := [.bool true, sv2, lv3]) hB14 und44 hl14 rfl (by omega) (found_one (s := []) hsn2 hls2) ?_
  intro w15 hB15 hF15 _
  have hF1315 : Fr [] w13 w15 := hF14.trans hF15 (fun i hi => .inr (by simp at hi; omega))
  have hF015 : Fr [] w w15 := h13.frn.t hF1315
  refine eql (gdT (by simp [isB]) (fad rfl) (gdT (by simp [isB]) (ldC_bk hB15 rfl rfl) (pick_t (by simp) ?_)))
  refine gdT (by simp [isB]) (fad rfl) (gdT (by simp [isB]) (ldC_bk hB15 rfl rfl) ?_)
  refine gT (by simp [isB]) (litB ?_)
  intro b16 w16 hb16 hB16 hF16 hs16
  refine gT (by simp [isB]) ((bytes_c (a := [7]) (b := [7]) ((hsn2.sl.fr hF1315 (fun i _ => by simp)).fr hF16 (fun i _ => by simp)) (by simp) (hB16.sl rfl 1) (by simp)).use ?_)
  rintro _ w17 ⟨rfl, hw17⟩
  rw [hw17]
  have hB16' := hB15.fr hF16 (by simp)
  refine pick_t (by simp) ?_
  have hls16 := (sOwn.list (by decide)).fr ((sOwn.list (by decide)).fr hls2 hF1315 (fun i _ => by simp)) hF16 (fun i _ => by simp)
  obtain ⟨cells, Gc, hcap, hsl, hrows, _⟩ := list_open hls16
  refine gdT (by simp [isB]) (fad rfl) (gdT (by simp [isB]) (ldC_bk hB16' rfl rfl) (gdT (by simp [isB]) (hsl.lenV rfl) (gdT (by simp [isB]) (eql rfl) (pick_t (by simp) ?_))))
  obtain ⟨Ga, ⟨v1, e1, s1, _⟩, _⟩ := rows_get sOwn hrows 0 (by simp)
  have he : cells[0]? = some v1 := by
    have hs : sOwn.size = 1 := rfl
    rw [hs] at e1
    have := congrArg (fun l : List Value => l[0]?) e1
    simpa [List.getElem?_take, List.getElem?_drop] using this
  obtain ⟨a1, ha1, ha2⟩ := ix1_ex (κ := .i64) hsl (i := 0) (by simp) he
  refine gdT (by simp [isB]) (fad rfl) (gdT (by simp [isB]) (ldC_bk hB16' rfl rfl) (gdT (by simp [isB]) ha1 (gdT (by simp [isB]) ha2 ?_)))
  refine gT (by simp [isB]) (litB ?_)
  intro b18 w18 hb18 hB18 hF18 hs18
  refine gT (by simp [isB]) ((bytes_c (a := [6]) (b := [6]) (s1.sl.fr hF18 (fun i _ => by simp)) (by simp) (hB18.sl rfl 1) (by simp)).use ?_)
  rintro _ w19 ⟨rfl, hw19⟩
  rw [hw19]
  exact pick_t (by simp) ⟨by simp, (hF015.t hF16).t hF18⟩
end Go.Proofs.Ytmlaconjeplhpaa

set_option linter.unusedVariables false
set_option linter.unusedSimpArgs false
set_option maxRecDepth 20000
namespace Go.Proofs.Ytmlaconjeplhpaa
open Go Go.Vc
open St (Dsk All64 Blk pad four put4 halfN base hb walk eldest rootF openF putF rootL SInv encAll encRec)

theorem begin_c {w : World} {n : Nat} (hn : 80 ≤ n ∧ n ≤ 4096) : CallF Try.prog 26 #[.int .i64 n] w fun r w' => ∃ cells, r = .tuple #[.agg (List.toArray cells), .bool true] ∧ cells.length = 8 ∧ (∀ v ∈ cells, v.oneCell' = true) ∧ Fr [] w w' ∧
    ∀ pk w2, Fr [] w' w2 → w'.heap.size ≤ pk → Bk w2 pk 44 cells → Ks w w2 pk n 1 := by
  refine C_furlonglaw15_begin_link ?_
  unfold C_furlonglaw15_begin
  refine alloc_n (n := 8) (by kernel_rfl) ?_
  intro bk w1 l1 hl1 hb1 hB1 hF1 _
  refine (dnew_c (n := n) (by omega) (by omega)).use ?_
  rintro r w2 ⟨pd, bb, rfl, hd2, hF2, hpd, hbb⟩
  refine ext0 (ext1 ?_)
  refine (new_open hd2 (by omega)).use ?_
  rintro r w3 ⟨ps, tv, sv, lv2, G, life, at', tail, rfl, hsk, hinv, hsn, hls, hF3, n1, n2⟩
  refine ext0 (ext1 (ext2 ?_))
  refine alloc_n (n := 3) (by kernel_rfl) ?_
  intro b4 w4 l4 hl4 hb4 hB4 hF4 _
  refine store_all (vs := [.bool false, sv, lv2]) hB4 und44 hl4 rfl (by omega) (found_one (s := []) hsn hls) ?_
  intro w5 hB5 hF5 _
  have s1 := hF1.size
  have s2 := hF2.size
  have s3 := hF3.size
  have hl1' := hB1.lt
  have hF35 : Fr [] w3 w5 := hF4.trans hF5 (fun i hi => .inr (by simp at hi; omega))
  have hls5 := (sOwn.list (by decide)).fr hls (hF35.t (Fr.drew [] w5)) (fun i _ => by simp)
  have hsn5 := hsn.sl.fr (hF35.t (Fr.drew [] w5)) (fun i _ => by simp)
  obtain ⟨cells, Gc, hcap, hsl, hrows, _⟩ := list_open hls5
  have hB15 : Bk w5 bk 44 l1 := ((hB1.fr hF2 (by simp)).fr hF3 (by simp; omega)).fr hF35 (by simp)
  refine ⟨fun w' => Bk w' b4 33 [.bool false, sv, lv2], hB5.drew, ?_⟩
  refine mul64 (by omega) (sub64 (by omega) ?_)
  refine ⟨[ptr pd, ptr ps, .int .i64 (16 * n - 1024), .bool false, .slice none 0 0, .slice none 0 0, .int .i64 0, .int .i64 0], by kernel_rfl, by kernel_rfl, ?_⟩
  refine eql (gdT (by simp [isB]) rfl (gdT (by simp [isB]) (eql rfl) (pick_t (by simp) ?_)))
  refine gdT (by simp [isB]) rfl (gdT (by simp [isB]) (ptr_neq und31 rfl) (pick_t (by simp) ?_))
  refine gdT (by simp [isB]) (fad rfl) (gdT (by simp [isB]) (ldC_S (fun w' h => h) rfl rfl) (gdT (by simp [isB]) (notB rfl) (pick_t (by simp) ?_)))
  refine gdT (by simp [isB]) (fad rfl) (gdT (by simp [isB]) (ldC_S (fun w' h => h) rfl rfl) (gdT (by simp [isB]) (hsl.lenV rfl) ?_))
  refine gdT (by simp [isB]) (fad rfl) (gdT (by simp [isB]) (ldC_S (fun w' h => h) rfl rfl) (gdT (by simp [isB]) (hsn5.lenV rfl) ?_))
  refine gdT (by simp [isB]) (add64 (by simp) rfl) (gdT (by simp [isB]) (eql rfl) (pick_t (by simp) ?_))
  refine store_all (n := 8) (vs := [ptr pd, ptr ps, .int .i64 (16 * n - 1024), .bool false, .slice none 0 0, .slice none 0 0, .int .i64 0, .int .i64 0]) hB15.drew (by kernel_rfl) hl1 rfl (by omega) (by simp [ptr, Value.oneCell']) ?_
  intro w6 hB6 hF6 hs6
  have hne : b4 ≠ bk := by omega
  refine ⟨hB5.drew.fr hF6 (by simp; exact hne), ?_⟩
  refine ldA_bk hB6 (by simp) ⟨_, rfl, rfl, ?_, ?_, ?_⟩
  · simp [ptr, Value.oneCell']
  · have a3 : Fr [] w w3 := (hF1.t hF2).trans hF3 (fun i hi => .inr (by simp at hi; omega))
    exact ((a3.t hF35).t (Fr.drew [] w5)).trans hF6 (fun i hi => .inr (by simp at hi; omega))
  · intro pk w7 hF7 hpk hB7
    have a3 : Fr [] w w3 := (hF1.t hF2).trans hF3 (fun i hi => .inr (by simp at hi; omega))
    have a6 : Fr [] w w6 := ((a3.t hF35).t (Fr.drew [] w5)).trans hF6 (fun i hi => .inr (by simp at hi; omega))
    have b36 : Fr [bk] w3 w6 := ((hF35.t (Fr.drew [] w5)).mono (fun i hi => by simp at hi)).trans hF6 (fun i hi => .inl hi)
    have hlt := hsk.lt
    have hnb : ∀ i ∈ skX ps pd bb (.slice none 0 0) tv, i ≠ bk ∧ w.heap.size ≤ i := fun i hm => by
      rcases skX_mem.1 hm with e | e | e | e | e
      · omega
      · omega
      · omega
      · simp [fp_nil] at e
      · have := n2 i e; omega
    have h36 := b36.size
    refine ⟨ps, pd, bb, .slice none 0 0, tv, .slice none 0 0, .slice none 0 0, newD n, 1, life, at', 0, tail, false, [], [], [], [], { fr := a6.t hF7, blk := by simpa [took] using hB7, sk := (hsk.fr b36 (fun i hi hm => (hnb i hi).1 (by simpa using hm))).fresh hF7, inv := hinv, snp := ⟨.slice none 0 0, rfl, Nat.le_refl _, ⟨none, 0, rfl, rfl, fun _ => ⟨rfl, rfl⟩, fun a ha => by cases ha⟩, rfl⟩, lst := ⟨.slice none 0 0, [], [], rfl, Nat.le_refl _, ⟨none, 0, rfl, rfl, fun _ => ⟨rfl, rfl⟩, fun a ha => by cases ha⟩, ⟨rfl, rfl⟩, rfl⟩, newk := by have := a6.size; omega, newx := fun i hi => (hnb i hi).2, new1 := fun i hi => (by cases hi), new2 := fun i hi => (by cases hi), kx := fun hm => by have := hlt _ hm; omega, k1 := fun hm => (by cases hm), k2 := fun hm => (by cases hm), x1 := fun i hi hm => (by cases hm), x2 := fun i hi hm => (by cases hm), len := List.length_replicate, ll := Nat.zero_le _, n80 := hn, cnt := Nat.zero_le _, bnd' := by omega }⟩
end Go.Proofs.Ytmlaconjeplhpaa

set_option linter.unusedVariables false
set_option linter.unusedSimpArgs false
set_option maxRecDepth 20000
namespace Go.Proofs.Ytmlaconjeplhpaa
open Go Go.Vc

abbrev aBytes : Shape (List Nat) := sByte.list (by decide)
abbrev aOp : Shape (Int × Int × List Nat) := sInt.seq (sInt.seq aBytes)
abbrev aOps : Shape (List (Int × Int × List Nat)) := aOp.list (by decide)
abbrev aLists : Shape (List (List Nat)) := aBytes.list (by decide)
abbrev aInts : Shape (List Int) := sInt.list (by decide)
theorem of_aBytes {w : World} {cs : List Value} {p F : List Nat} (h : aBytes.rd w cs p F) : ∃ x F', cs = [x] ∧ sSl.rd w [x] p F' ∧ ∀ c ∈ p, c < 256 := by
  obtain ⟨v, cells, G, rfl, hcap, hsl, hrows, _⟩ := h
  obtain ⟨rfl, rfl, hb⟩ := rows_bytes.1 hrows
  exact ⟨v, _, rfl, ⟨v, rfl, hcap, hsl, rfl⟩, hb⟩
theorem of_aOp {w : World} {cs : List Value} {o : Int × Int × List Nat} {F : List Nat} (h : aOp.rd w cs o F) : ∃ x F', cs = [.int .i64 o.1, .int .i64 o.2.1, x] ∧ sSl.rd w [x] o.2.2 F' ∧ ∀ c ∈ o.2.2, c < 256 := by
  obtain ⟨_, _, _, _, rfl, rfl, ⟨rfl, rfl, _⟩, _, _, _, _, rfl, rfl, ⟨rfl, rfl, _⟩, h3⟩ := h
  obtain ⟨x, F', rfl, h4, h5⟩ := of_aBytes h3
  exact ⟨x, F', rfl, h4, h5⟩
/-- The desk of a law, when it has begun. -/
theorem Ks.frn {w0 w : World} {pk n bnd : Nat} (h : Ks w0 w pk n bnd) : Fr [] w0 w := by
  obtain ⟨ps, pd, bb, lv, tv, sv, lsv, D, gen, life, at', safe, tail, whole, snap, list, F1, F2, h⟩ := h
  exact h.fr
theorem holds_c {w : World} {n : Int} {x : Value} {ops : List (Int × Int × List Nat)} {F : List Nat} (hx : aOps.rd w [x] ops F) (hl : ∀ o ∈ ops, o.2.2.length ≤ 1000000000) :
    CallF Try.prog 6 #[.int .i64 n, x] w fun r w' => r = .bool true ∧ Fr [] w w' := by
  refine C_furlonglaw15_StoreHolds_link ?_
  unfold C_furlonglaw15_StoreHolds
  refine awake_c.use ?_
  rintro _ w1 ⟨rfl, hF1⟩
  refine notB (if_f rfl ?_)
  refine blocks_c.use ?_
  rintro _ w1' ⟨⟨b, hb1, hb2, rfl⟩, hw1⟩
  rw [hw1]
  refine (begin_c (n := b) (by omega)).use ?_
  rintro r w2 ⟨cells, rfl, hcl, hco, hF2, hks⟩
  refine ext0 (ext1 ?_)
  refine alloc_n (n := 8) (by kernel_rfl) ?_
  intro pk w3 l3 hl3 hpk hB3 hF3 _
  refine store_all (n := 8) (vs := cells) hB3 (by kernel_rfl) hl3 hcl (by omega) hco ?_
  intro w4 hB4 hF4 _
  have hk4 : Ks w1 w4 pk b 1 := hks pk w4 (hF3.trans hF4 (fun i hi => .inr (by simp at hi; omega))) (by omega) hB4
  refine notB (if_f rfl ?_)
  obtain ⟨oc, Go', hcap, hsl, hrows, _⟩ := list_open (aOps.fr hx hF1 (fun i _ => by simp))
  refine hsl.lenV ?_
  refine ⟨fun _ _ w' => Ks w1 w' pk b 155, ?_, ?_⟩
  · intro _ _ w5 h5
    refine (crash_c 0 h5 (by omega)).use ?_
    rintro _ w6 ⟨rfl, h6⟩
    refine gT (by simp [isB]) ((crash_c 9 h6 (by omega)).use ?_)
    rintro _ w7 ⟨rfl, h7⟩
    exact pick_t rfl ⟨rfl, hF1.t h7.frn⟩
  refine ⟨fun m _ t w' => ∃ j : Nat, j + m = ops.length ∧ t = .int .i64 j ∧ j ≤ 150 ∧ Ks w1 w' pk b (1 + j), ops.length, ⟨0, by omega, rfl, by omega, hk4⟩, ?_⟩
  rintro m _ _ w5 ⟨j, hj, rfl, hj150, h5⟩
  refine lss (if_p (fun hlt => ?_) (fun hge => h5.up (by omega) (by omega)))
  have hjl : j < ops.length := by omega
  refine ixN (hsl.fr h5.frn (fun i _ => by simp)) hjl ?_
  obtain ⟨Gj, hrd, _⟩ := rows_get aOp hrows j hjl
  obtain ⟨pv, Fp, hcs, hpv, hpb⟩ := of_aOp hrd
  have h3 : aOp.size = 3 := rfl
  rw [h3] at hcs
  have hcs' : List.take 3 (List.drop (j * 3) oc) = [.int .i64 ops[j].1, .int .i64 ops[j].2.1, pv] := hcs
  rw [hcs']
  refine alloc_n (n := 3) (by kernel_rfl) ?_
  intro bo w6 l6 hl6 hbo hB6 hF6 _
  refine store_all (n := 3) (vs := [.int .i64 ops[j].1, .int .i64 ops[j].2.1, pv]) hB6 (by kernel_rfl) hl6 rfl (by omega) (fun v hv => by simp at hv; rcases hv with rfl | rfl | rfl; rfl; rfl; exact sSl.one hpv _ (by simp)) ?_
  intro w7 hB7 hF7 _
  have h7 := h5.fresh (hF6.trans hF7 (fun i hi => .inr (by simp at hi; omega)))
  obtain ⟨hps, hpx⟩ := sSl_sl hpv
  have hpl := hl _ (List.getElem_mem hjl)
  have rest : j < 150 → LdA (At w7) 3 (.pointer (some ⟨bo, 0, none⟩)) (fun t34_44 =>
       CallF Try.prog 31 #[ptr pk, t34_44] w7 fun t35_45 w_46 =>
       Un Try.prog (At w_46) .not t35_45 fun t36_47 =>
       If t36_47 (
        (Value.bool false = .bool true ∧ Fr [] w w_46)) (
        Bin Try.prog (At w_46) .add 3 false true (.int .i64 j) (.int .i64 1) fun t37_48 =>
        ∃ m_49, m_49 < m ∧
        ∃ j : Nat, j + m_49 = ops.length ∧ t37_48 = .int .i64 j ∧ j ≤ 150 ∧ Ks w1 w_46 pk b (1 + j))) := by
    intro hj1
    refine ldA_bk hB7 (by simp) ?_
    refine (do_c h7 (by omega) hpv hpb hpl).use ?_
    rintro _ w8 ⟨rfl, h8⟩
    refine notB (if_f rfl (add64 (by omega) ⟨m - 1, by omega, j + 1, by omega, by congr 1, by omega, h8⟩))
  refine geq ?_
  by_cases hbig : 150 ≤ j
  · refine gdF (by simp [isB]; omega) (gdF (by simp [isB]; omega) (gdF (by simp [isB]; omega) (gdF (by simp [isB]; omega) (pick_t (by simp; omega) (if_t rfl (h7.up (by omega) (by omega)))))))
  · refine gdT (by simp [isB]; omega) (fad rfl) (gdT (by simp [isB]; omega) (ldC_bk hB7 rfl rfl) (gdT (by simp [isB]; omega) (hps.lenV rfl) (gdT (by simp [isB]; omega) (gtr rfl) (pick_f (by simp; omega) (if_p (fun _ => h7.up (by omega) (by omega)) (fun _ => rest (by omega)))))))
end Go.Proofs.Ytmlaconjeplhpaa
