/- The desk's method checkpoint. -/
import Derived.Test.YtmlaconjeplhpaaStoreH
set_option linter.unusedVariables false
set_option linter.unusedSimpArgs false
set_option maxRecDepth 20000
namespace Go.Proofs.Ytmlaconjeplhpaa
open Go Go.Vc
open St (Dsk All64 Blk pad four put4 halfN base hb walk eldest rootF openF putF rootL SInv encAll encRec)

theorem checkpoint_c {w0 w : World} {pk n bnd : Nat} {x : Value} {p F : List Nat} (h : Ks w0 w pk n bnd) (hb : bnd < 400) (hx : sSl.rd w0 [x] p F) (hpb : ∀ c ∈ p, c < 256) (hpl : p.length ≤ 1000000000) :
    CallF Try.prog 29 #[ptr pk, x] w fun r w' => r = .bool true ∧ Ks w0 w' pk n (bnd + 1) := by
  obtain ⟨ps, pd, bb, lv, tv, sv, lsv, D, gen, life, at', safe, tail, whole, snap, list, F1, F2, h⟩ := h
  have htk := h.took_le
  have hn80 := h.n80
  have hlen := h.len
  have hhalf : halfN D.B ≤ 2048 := by unfold halfN; omega
  have hll := h.ll
  have hcnt := h.cnt
  have hbn := h.inv.bnd
  obtain ⟨hxs0, hx0⟩ := sSl_sl hx
  have hxs : Sl w 1 x p.length (bytes p) := hxs0.fr h.fr (fun i _ => by simp)
  have hxd : 0 < p.length → ∀ i ∈ fp x, i ∉ skX ps pd bb lv tv := fun h0 i hi hm => by have := hx0 h0 i hi; have := h.newx i hm; omega
  refine C_furlonglaw15_desk_checkpoint_link ?_
  unfold C_furlonglaw15_desk_checkpoint
  refine nilC (fad (ldC_bk h.blk rfl ((schk_c h.sk hxs hpb (by omega) hxd (by omega) (by omega)).use ?_)))
  rintro r w1 (⟨rfl, hlong, hF1⟩ | ⟨rfl, hle, hfull, hF1⟩ | ⟨rfl, hle, hfit, D', at2, t2, hput, lv', tv', hsk1, hF1, hsub⟩)
  · refine hxs.lenV (gtr (if_p (fun _ => eql ⟨rfl, ?_⟩) (fun h' => absurd h' (by omega))))
    exact ⟨ps, pd, bb, lv, tv, sv, lsv, D, gen, life, at', safe, tail, whole, snap, list, F1, F2, (h.fresh hF1).up (by omega) (by omega)⟩
  · refine hxs.lenV (gtr (if_p (fun h' => absurd h' (by omega)) (fun _ => eql (if_p (fun _ => ?_) (fun h' => absurd rfl h')))))
    have h1 := h.fresh hF1
    refine hxs.lenV (nilC (fad (ldC_bk h1.blk rfl (gtr ⟨?_, ps, pd, bb, lv, tv, sv, lsv, D, gen, life, at', safe, tail, whole, snap, list, F1, F2, h1.up (by omega) (by omega)⟩))))
    congr 1
    rw [decide_eq_true_iff]
    have h6 : halfN D.B * 2 + 3 ≥ n := by unfold halfN; omega
    omega
  · refine hxs.lenV (gtr (if_p (fun h' => absurd h' (by omega)) (fun _ => eql (if_p (fun h' => absurd h' (by decide)) (fun _ => ?_)))))
    obtain ⟨D2, a2, u2, hput2, hlen2, hinv2⟩ := St.sinv_checkpoint h.inv (by omega) hle hpb hfit
    obtain ⟨rfl, e2⟩ := Prod.mk.inj (hput.symm.trans hput2)
    obtain ⟨rfl, rfl⟩ := Prod.mk.inj e2
    have hpk1 : Bk w1 pk 44 [ptr pd, ptr ps, .int .i64 (16 * n - 1024), .bool whole, sv, lsv, .int .i64 safe, .int .i64 (took snap list : Nat)] := h.blk.fr hF1 h.kx
    have hx1 : Sl w1 1 x p.length (bytes p) := hxs.fr1 hF1 hxd
    have hF01 : Fr [] w0 w1 := h.fr.trans hF1 (fun i hi => .inr (h.newx i hi))
    have hw01 := hF01.size
    have hlt1 := hsk1.lt
    have hpkl := hpk1.lt
    refine (twin_c hx1 hpl).use ?_
    intro v2 w2 hN2
    have hpk2 := hpk1.fr hN2.fr (by simp)
    refine hxs.lenV ?_
    refine nilC (fad (store' hpk2 (by kernel_rfl) (by simp) rfl ?_))
    intro w3 hB3 hF3 _
    refine nilC (fad (store' hB3 (by kernel_rfl) (by simp) (by obtain ⟨A, c, rfl⟩ := hN2.own.len; rfl) ?_))
    intro w4 hB4 hF4 _
    refine nilC (fad (store' hB4 (by kernel_rfl) (by simp) rfl ?_))
    intro w5 hB5 hF5 _
    refine nilC (fad (store' hB5 (by kernel_rfl) (by simp) rfl ?_))
    intro w6 hB6 hF6 _
    refine nilC (fad (store' hB6 (by kernel_rfl) (by simp) rfl ?_))
    intro w7 hB7 hF7 _
    refine eql ⟨rfl, ?_⟩
    have hF27 : Fr [pk] w2 w7 := (((hF3.t hF4).t hF5).t hF6).t hF7
    have hF17 : Fr [pk] w1 w7 := (hN2.fr.mono (fun i hi => by simp at hi)).t hF27
    have hkx1 : pk ∉ skX ps pd bb lv' tv' := fun hm => (hsub pk hm).elim h.kx (fun h' => by have := h.blk.lt; omega)
    obtain ⟨Fp, hp2, hFp⟩ := own_sl hN2.own
    have hFpn : ∀ i ∈ Fp, w1.heap.size ≤ i := fun i hi => hN2.new i (hFp i hi)
    have hle1 := h.fr.size
    have hF1s := hF1.size
    refine ⟨ps, pd, bb, lv', tv', v2, .slice none 0 0, _, gen + 1, life, _, 0, _, true, p, [], Fp, [], { fr := hF01.trans hF17 (fun i hi => .inr (by simp at hi; subst hi; exact h.newk)), blk := by simpa [took] using hB7, sk := hsk1.fr hF17 (fun i hi hm => hkx1 (by simp at hm; subst hm; exact hi)), inv := hinv2, snp := sSl.fr hp2 hF27 (fun i hi hm => by have := hFpn i hi; simp at hm; omega), lst := ⟨.slice none 0 0, [], [], rfl, Nat.le_refl _, ⟨none, 0, rfl, rfl, fun _ => ⟨rfl, rfl⟩, fun a ha => by cases ha⟩, ⟨rfl, rfl⟩, rfl⟩, newk := h.newk, newx := fun i hi => (hsub i hi).elim (h.newx i) (fun _ => by omega), new1 := fun i hi => by have := hFpn i hi; omega, new2 := fun i hi => (by cases hi), kx := hkx1, k1 := fun hm => by have := hFpn _ hm; omega, k2 := fun hm => (by cases hm), x1 := fun i hi hm => by have := hFpn i hm; have := hlt1 i hi; omega, x2 := fun i hi hm => (by cases hm), len := ?_, ll := Nat.zero_le _, n80 := h.n80, cnt := Nat.zero_le _, bnd' := by omega }⟩
    have hw : ((Dsk.mk D'.B []).write ((gen + 1) % 2) (pad (rootL (gen + 1) p.length))).B.length = D'.B.length := by unfold Dsk.write; split <;> simp
    exact hw.trans (hlen2.trans h.len)
end Go.Proofs.Ytmlaconjeplhpaa
