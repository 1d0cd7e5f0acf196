/- The desk's method do; blocks. -/
import Derived.Test.YtmlaconjeplhpaaStoreJ
set_option linter.unusedVariables false
set_option linter.unusedSimpArgs false
set_option maxRecDepth 20000
namespace Go.Proofs.Ytmlaconjeplhpaa
open Go Go.Vc
open St (Dsk All64 Blk pad four put4 halfN base hb walk eldest rootF openF putF rootL SInv encAll encRec)

theorem do_c {w0 w : World} {pk n bnd : Nat} {kind keep : Int} {pv : Value} {p F : List Nat} (h : Ks w0 w pk n bnd) (hb : bnd < 400) (hx : sSl.rd w0 [pv] p F) (hpb : ∀ c ∈ p, c < 256) (hpl : p.length ≤ 1000000000) :
    CallF Try.prog 31 #[ptr pk, .agg #[.int .i64 kind, .int .i64 keep, pv]] w fun r w' => r = .bool true ∧ Ks w0 w' pk n (bnd + 1) := by
  refine C_furlonglaw15_desk_do_link ?_
  unfold C_furlonglaw15_desk_do
  refine box' (l := [.int .i64 kind, .int .i64 keep, pv]) rfl ?_
  intro bo w1 hbo hBo hF1 _
  have h1 := h.fresh hF1
  refine fad (ldC_bk hBo rfl (eql ?_))
  refine ⟨fun ok w' => ok = .bool true ∧ Ks w0 w' pk n (bnd + 1), ?_, if_p (fun h0 => ?_) (fun h0 => ?_)⟩
  · rintro _ w2 ⟨rfl, ps, pd, bb, lv, tv, sv, lsv, D, gen, life, at', safe, tail, whole, snap, list, F1, F2, hk⟩
    obtain ⟨cells, G, hcap, hsl, hrows, hGF, hFe⟩ := list_open hk.lst
    have hd := Fr.drew [] w2
    have hkd := hk.fresh hd
    refine ⟨fun w' => Bk w' pk 44 [ptr pd, ptr ps, .int .i64 (16 * n - 1024), .bool whole, sv, lsv, .int .i64 safe, .int .i64 (took snap list : Nat)], hkd.blk, ?_⟩
    refine gdT (by simp [isB]) rfl (gdT (by simp [isB]) (nilC rfl) (gdT (by simp [isB]) (fad rfl) (gdT (by simp [isB]) (ldC_S (fun w' h => h) rfl rfl) (gdT (by simp [isB]) rfl (gdT (by simp [isB]) (nilC rfl) (gdT (by simp [isB]) (fad rfl) (gdT (by simp [isB]) (ldC_S (fun w' h => h) rfl rfl) (gdT (by simp [isB]) (hsl.lenV rfl) ?_))))))))
    refine gT (by simp [isB]) ((slen_c hkd.sk).use ?_)
    rintro _ w3 ⟨rfl, hw3⟩
    rw [hw3]
    refine ⟨hkd.blk, gdT (by simp [isB]) (eql rfl) (pick_t rfl ?_)⟩
    refine gdT (by simp [isB]) rfl (gdT (by simp [isB]) (nilC rfl) (gdT (by simp [isB]) (fad rfl) (gdT (by simp [isB]) (ldC_S (fun w' h => h) rfl rfl) (gdT (by simp [isB]) rfl (gdT (by simp [isB]) (nilC rfl) (gdT (by simp [isB]) (fad rfl) (gdT (by simp [isB]) (ldC_S (fun w' h => h) rfl rfl) ?_)))))))
    refine gT (by simp [isB]) ((ssafe_c hkd.sk).use ?_)
    rintro _ w4 ⟨rfl, hw4⟩
    rw [hw4]
    refine ⟨hkd.blk, gdT (by simp [isB]) (eql rfl) (pick_t (by simp) ⟨by simp, ?_⟩)⟩
    exact ⟨ps, pd, bb, lv, tv, sv, lsv, D, gen, life, at', safe, tail, whole, snap, list, F1, F2, hkd⟩
  · refine fad (ldC_bk hBo rfl ((append_c h1 hb hx hpb hpl).use ?_))
    rintro _ w2 ⟨rfl, h2⟩
    exact ⟨rfl, h2⟩
  refine eql ⟨fun ok w' => ok = .bool true ∧ Ks w0 w' pk n (bnd + 1), fun ok w' h' => h', if_p (fun h0 => ?_) (fun h0 => ?_)⟩
  · obtain ⟨ps, pd, bb, lv, tv, sv, lsv, D, gen, life, at', safe, tail, whole, snap, list, F1, F2, hk⟩ := h1
    obtain ⟨cells, G, hcap, hsl, hrows, hGF, hFe⟩ := list_open hk.lst
    refine nilC (fad (ldC_bk hk.blk rfl ((ssync_c hk.sk).use ?_)))
    rintro _ w2 ⟨rfl, hsk2, hF2⟩
    have hF2' : Fr (skX ps pd bb lv tv) w1 w2 := hF2.mono (fun i hi => .inl (skX_mem.2 (by simp at hi; rcases hi with h | h <;> simp [h])))
    have hpk2 := hk.blk.fr hF2' hk.kx
    refine eql (nilC (fad (ldC_bk hpk2 rfl (hsl.lenV ?_))))
    refine nilC (fad (store' hpk2 (by kernel_rfl) (by simp) rfl ?_))
    intro w3 hB3 hF3 _
    have hsub : ∀ i ∈ skX ps pd bb (.slice none 0 0) tv, i ∈ skX ps pd bb lv tv := fun i hm => skX_mem.2 (by
      rcases skX_mem.1 hm with e | e | e | e | e
      · simp [e]
      · simp [e]
      · simp [e]
      · simp [fp_nil] at e
      · simp [e])
    have hkx : pk ∉ skX ps pd bb (.slice none 0 0) tv := fun hm => hk.kx (hsub _ hm)
    have hll := hk.ll
    have hcnt := hk.cnt
    exact ⟨rfl, ps, pd, bb, .slice none 0 0, tv, sv, lsv, _, gen, life, at', list.length, tail, whole, snap, list, F1, F2, { fr := (hk.fr.trans hF2' (fun i hi => .inr (hk.newx i hi))).trans hF3 (fun i hi => .inr (by simp at hi; subst hi; exact hk.newk)), blk := by simpa using hB3, sk := hsk2.fr hF3 (fun i hi hm => hkx (by simp at hm; subst hm; exact hi)), inv := SInv.mono (St.sinv_sync hk.inv) _ (by omega) (by omega), snp := sSl.fr (sSl.fr hk.snp hF2' (fun i hi hm => hk.x1 i hm hi)) hF3 (fun i hi hm => hk.k1 (by simp at hm; subst hm; exact hi)), lst := sLs.fr (sLs.fr hk.lst hF2' (fun i hi hm => hk.x2 i hm hi)) hF3 (fun i hi hm => hk.k2 (by simp at hm; subst hm; exact hi)), newk := hk.newk, newx := fun i hi => hk.newx i (hsub i hi), new1 := hk.new1, new2 := hk.new2, kx := hkx, k1 := hk.k1, k2 := hk.k2, x1 := fun i hi => hk.x1 i (hsub i hi), x2 := fun i hi => hk.x2 i (hsub i hi), len := hk.len, ll := Nat.zero_le _, n80 := hk.n80, cnt := by omega, bnd' := by omega }⟩
  refine eql ⟨fun ok w' => ok = .bool true ∧ Ks w0 w' pk n (bnd + 1), fun ok w' h' => h', if_p (fun h0 => ?_) (fun h0 => ?_)⟩
  · refine fad (ldC_bk hBo rfl ((checkpoint_c h1 hb hx hpb hpl).use ?_))
    rintro _ w2 ⟨rfl, h2⟩
    exact ⟨rfl, h2⟩
  refine eql ⟨fun ok w' => ok = .bool true ∧ Ks w0 w' pk n (bnd + 1), fun ok w' h' => h', if_p (fun h0 => ?_) (fun h0 => ?_)⟩
  · refine fad (ldC_bk hBo rfl (max2 ?_))
    obtain ⟨kp, hkp⟩ : ∃ kp : Nat, (if keep < 0 then 0 else keep) = (kp : Int) := ⟨(if keep < 0 then 0 else keep).toNat, by split <;> omega⟩
    rw [hkp]
    refine (crash_c kp h1 hb).use ?_
    rintro _ w2 ⟨rfl, h2⟩
    exact ⟨rfl, h2⟩
  · exact ⟨rfl, h1.up (by omega) (by omega)⟩
theorem blocks_c {w : World} {n : Int} : CallF Try.prog 30 #[.int .i64 n] w fun r w' => (∃ b : Nat, 80 ≤ b ∧ b ≤ 4080 ∧ r = .int .i64 b) ∧ w' = w := by
  refine C_furlonglaw15_blocks_link ?_
  unfold C_furlonglaw15_blocks
  refine max2 (min2 (add64 ?_ ⟨?_, rfl⟩))
  · constructor <;> (repeat' split) <;> omega
  · refine ⟨((80 : Int) + _).toNat, ?_, ?_, congrArg _ ((Int.toNat_of_nonneg ?_).symm)⟩
    all_goals (repeat' split) <;> omega
end Go.Proofs.Ytmlaconjeplhpaa
