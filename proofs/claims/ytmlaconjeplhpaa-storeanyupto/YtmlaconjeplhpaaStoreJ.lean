/- The desk's method crash. -/
import Derived.Test.YtmlaconjeplhpaaStoreI
set_option linter.unusedVariables false
set_option linter.unusedSimpArgs false
set_option maxRecDepth 20000
namespace Go.Proofs.Ytmlaconjeplhpaa
open Go Go.Vc
open St (Dsk All64 Blk pad four put4 halfN base hb walk eldest rootF openF putF rootL SInv encAll encRec)

theorem gdB {g : Bool} {A : (Value → Prop) → Prop} {k : Value → Prop} (v : Value) (hA : g = true → A (fun u => u = v)) (hk : k (bif g then v else undef)) : GdP g A k :=
  ⟨_, fun hg => by rw [hg]; exact hA hg, fun hg => by rw [hg]; rfl, hk⟩
theorem neq_bool {S : World → Prop} {t : TypeId} {cx cy : Bool} {a b : Bool} {k : Value → Prop} (hu : Try.prog.underlying t = some .bool) (h : k (.bool (a != b))) : Bin Try.prog S .neq t cx cy (.bool a) (.bool b) k := by
  refine ⟨_, fun w hw => ?_, h⟩
  have := run_equal_bool (P := Try.prog) w t a b hu
  simp [binSem, eqGuard, binOp, this]
  cases a <;> cases b <;> rfl
theorem slcHi_ex {w : World} {size n m : Nat} {v : Value} {cells : List Value} {κ : IntKind} (hs : Sl w size v n cells) (hc : capOk v) (hl : m ≤ n) :
    ∃ v', SlcS size v none (some (.int κ m)) none (fun u => u = v') ∧ Sl w size v' m (cells.take (m * size)) ∧ capOk v' ∧ (∀ i ∈ fp v', i ∈ fp v) := by
  have := slcHi (κ := κ) (k := fun v' => Sl w size v' m (cells.take (m * size)) ∧ capOk v' ∧ (∀ i ∈ fp v', i ∈ fp v)) hs hc hl (fun v' a b c => ⟨a, b, c⟩)
  obtain ⟨A, c, rfl, _⟩ := hs
  obtain ⟨a1, a2, a3, h⟩ := this
  exact ⟨_, ⟨a1, a2, a3, rfl⟩, h⟩
theorem sLs_take {w : World} {v v' : Value} {l : List (List Nat)} {cells : List Value} {G : List Nat} {n : Nat} (hr : sSl.rows w l cells G) (hn : n ≤ l.length) (hs : Sl w 1 v' n (cells.take (n * 1))) (hc : capOk v') (hf : ∀ i ∈ fp v', i ∈ fp v) :
    ∃ F, sLs.rd w [v'] (l.take n) F ∧ ∀ i ∈ F, (i ∈ fp v ∧ l ≠ []) ∨ i ∈ G := by
  obtain ⟨G', hr', hs'⟩ := rows_take n hr
  have hlen : (l.take n).length = n := by rw [List.length_take]; omega
  refine ⟨_, ⟨v', _, G', rfl, hc, by rw [hlen]; exact hs, hr', rfl⟩, fun i hi => ?_⟩
  rcases List.mem_append.1 hi with hi | hi
  · split at hi
    · cases hi
    · rename_i hne
      exact .inl ⟨hf i hi, fun e => hne (by rw [e]; simp)⟩
  · exact .inr (hs' i hi)
theorem sum_drop {l : List (List Nat)} {j : Nat} (hj : j < l.length) : ((l.drop j).map fun p => p.length + 32).sum = (l[j].length + 32) + ((l.drop (j + 1)).map fun p => p.length + 32).sum := by
  rw [List.drop_eq_getElem_cons hj]; simp only [List.map_cons, List.sum_cons]
theorem und44 : sizeT Try.prog 33 = some 3 := by kernel_rfl

theorem crash_c {w0 w : World} {pk n bnd : Nat} (keep : Nat) (h : Ks w0 w pk n bnd) (hb : bnd < 400) :
    CallF Try.prog 28 #[ptr pk, .int .i64 keep] w fun r w' => r = .bool true ∧ Ks w0 w' pk n (bnd + 1) := by
  obtain ⟨ps, pd, bb, lv, tv, sv, lsv, D, gen, life, at', safe, tail, whole, snap, list, F1, F2, h⟩ := h
  have htk := h.took_le
  have hn80 := h.n80
  have hlen := h.len
  have hll := h.ll
  have hcnt := h.cnt
  obtain ⟨m, at2, tail2, hm1, hm2, hm3, hm4, hop, hinv2⟩ := St.sinv_crash h.inv (by omega) keep
  refine C_furlonglaw15_desk_crash_link ?_
  unfold C_furlonglaw15_desk_crash
  refine nilC (fad (ldC_bk h.blk rfl ((dloose_c h.sk.dk).use ?_)))
  rintro _ w0' ⟨rfl, hw0⟩
  rw [hw0]
  refine nilC (fad (ldC_bk h.blk rfl ((dcrash_c h.sk.dk (by omega) keep).use ?_)))
  rintro _ w1 ⟨rfl, hd1, hF1⟩
  have hF1' : Fr (skX ps pd bb lv tv) w w1 := hF1.mono (fun i hi => .inl (skX_mem.2 (by simp at hi; rcases hi with h | h <;> simp [h])))
  have hpk1 := h.blk.fr hF1' h.kx
  refine neq (if_f (by simp) ?_)
  refine nilC (fad (ldC_bk hpk1 rfl ((open_c hd1 (.inl (by show 2 ≤ (D.at keep).length; rw [D.at_length]; omega))).use ?_)))
  rintro r w2 ⟨ps2, tv2, sv2, lv2, G2, rfl, hsk2, hsn2, hls2, hF2, n1, n2, n3, n4, n5, n6, n7, n8⟩
  rw [show (Dsk.mk (D.at keep) []).B = D.at keep from rfl, hop] at hsk2 hsn2 hls2
  simp only [show (Dsk.mk (D.at keep) []).B = D.at keep from rfl, hop]
  have hlt2 := hsk2.lt
  have hpk2 := hpk1.fr hF2 (fun hm => h.kx (skX_mem.2 (by simp at hm; simp [hm])))
  obtain ⟨G3, hls3, hG3⟩ := own_ls hls2
  refine ext0 (ext1 (ext2 ?_))
  refine alloc_n (n := 3) (by kernel_rfl) ?_
  intro b7 w3 l3 hl3 hb3 hB3 hF3 _
  refine store_all (vs := [.bool whole, sv2, lv2]) hB3 und44 hl3 rfl (by omega) ?_ ?_
  · intro v hv
    simp at hv
    rcases hv with rfl | rfl | rfl
    · rfl
    · obtain ⟨A, c, rfl⟩ := hsn2.len; rfl
    · exact sLs.one hls3 _ (by simp)
  intro w4 hB4 hF4 _
  have hF24 : Fr [] w2 w4 := hF3.trans hF4 (fun i hi => .inr (by simp at hi; omega))
  have hpk4 := hpk2.fr hF24 (by simp)
  have hsn4 := (hsn2.sl).fr hF24 (fun i _ => by simp)
  have hls4 := sLs.fr hls3 hF24 (fun i _ => by simp)
  obtain ⟨cells4, Gl4, _, hsl4, hrows4, _⟩ := list_open hls4
  have hml : (list.take m).length = m := by rw [List.length_take]; omega
  refine fad (ldC_bk hB4 rfl (hsl4.lenV ?_))
  rw [hml]
  -- what the desk holds
  have hF14 : Fr [pd] w1 w4 := hF2.trans hF24 (fun i hi => by simp at hi)
  have hF04 : Fr (skX ps pd bb lv tv) w w4 := hF1'.trans hF14 (fun i hi => .inl (skX_mem.2 (by simp at hi; simp [hi])))
  have hsnD := sSl.fr h.snp hF04 (fun i hi hm => h.x1 i hm hi)
  have hlsD := sLs.fr h.lst hF04 (fun i hi hm => h.x2 i hm hi)
  obtain ⟨cells, G, hcap, hsl, hrows, hGF, hFe⟩ := list_open hlsD
  have hsnS := (sSl_sl hsnD).1
  obtain ⟨vt, hvt, hslt, hcapt, hft⟩ := slcHi_ex (κ := .i64) hsl hcap hm2
  obtain ⟨Ft, hlst, hFt⟩ := sLs_take hrows hm2 hslt hcapt hft
  have hd4 : Fr [] w4 (World.drew w4) := Fr.drew [] w4
  let S : World → Prop := fun w' => Bk w' pk 44 [ptr pd, ptr ps, .int .i64 (16 * n - 1024), .bool whole, sv, lsv, .int .i64 safe, .int .i64 (took snap list : Nat)] ∧ Bk w' b7 33 [.bool whole, sv2, lv2]
  have hS4 : ∀ {w'}, Fr [] w4 w' → S w' := fun f => ⟨hpk4.fr f (by simp), hB4.fr f (by simp)⟩
  refine ⟨S, hS4 hd4, ?_⟩
  refine neq (gdT (by simp [isB]) rfl (gdT (by simp [isB]) (ptr_eql und31 rfl) (pick_f (by simp) ?_)))
  refine gdT (by simp [isB]) (fad rfl) (gdT (by simp [isB]) (ldC_S (fun w' h => h.2) rfl rfl) (gdT (by simp [isB]) rfl (gdT (by simp [isB]) (nilC rfl) (gdT (by simp [isB]) (fad rfl) (gdT (by simp [isB]) (ldC_S (fun w' h => h.1) rfl rfl) (gdT (by simp [isB]) (neq_bool (by kernel_rfl) rfl) (pick_f (by simp) ?_)))))))
  refine gdT (by simp [isB]) (fad rfl) (gdT (by simp [isB]) (ldC_S (fun w' h => h.2) rfl rfl) (gdT (by simp [isB]) rfl (gdT (by simp [isB]) (nilC rfl) (gdT (by simp [isB]) (fad rfl) (gdT (by simp [isB]) (ldC_S (fun w' h => h.1) rfl rfl) ?_)))))
  refine gT (by simp [isB]) ((bytes_c (hsn4.fr hd4 (fun i _ => by simp)) h.inv.snp.2 (hsnS.fr hd4 (fun i _ => by simp)) h.inv.snp.2).use ?_)
  rintro _ w5 ⟨rfl, hw5⟩
  rw [hw5]
  refine ⟨hS4 hd4, ?_⟩
  refine gdT (by simp [isB]) (notB rfl) (pick_f (by simp) ?_)
  refine gdT (by simp [isB]) rfl (gdT (by simp [isB]) rfl (gdT (by simp [isB]) (nilC rfl) (gdT (by simp [isB]) (fad rfl) (gdT (by simp [isB]) (ldC_S (fun w' h => h.1) rfl rfl) (gdT (by simp [isB]) (lss rfl) (pick_f (by simp; try omega) ?_))))))
  refine gdT (by simp [isB]; try omega) rfl (gdT (by simp [isB]; try omega) rfl (gdT (by simp [isB]; try omega) (nilC rfl) (gdT (by simp [isB]; try omega) (fad rfl) (gdT (by simp [isB]; try omega) (ldC_S (fun w' h => h.1) rfl rfl) (gdT (by simp [isB]; try omega) (hsl.lenV rfl) (gdT (by simp [isB]; try omega) (gtr rfl) (pick_f (by simp; try omega) ?_)))))))
  have hfF : isB (.bool (decide ((m : Int) > (list.length : Int)))) false = true := by simp [isB]; omega
  refine gdT hfF rfl (gdT hfF (eql rfl) (gdT hfF rfl ?_))
  refine gdB (.int .i64 m) (fun _ => rfl) (gdB (ptr pk) (fun _ => rfl) (gdB (ptr pk) (fun hg => by rw [hg]; exact nilC rfl) (gdB (.pointer (some ⟨pk, 6, none⟩)) (fun hg => by rw [hg]; exact fad rfl) (gdB (.int .i64 safe) (fun hg => by rw [hg]; exact ldC_S (fun w' h => h.1) rfl rfl) (gdB (.bool (decide ((m : Int) ≠ (safe : Int)))) (fun hg => by rw [hg]; exact neq rfl) ?_)))))
  refine gdT (v := .bool false) hfF (by
    by_cases hk : keep = 0
    · simp [Pick, isB, hk, hm3 hk]
    · simp [Pick, isB, hk]) (pick_f (by simp; try omega) ?_)
  refine gdT (by simp [isB]) rfl (gdT (by simp [isB]) rfl (gdT (by simp [isB]) (geq rfl) (gdT (by simp [isB]) rfl ?_)))
  refine gdB (.int .i64 m) (fun _ => rfl) (gdB (ptr pk) (fun _ => rfl) (gdB (ptr pk) (fun hg => by rw [hg]; exact nilC rfl) (gdB (.pointer (some ⟨pk, 5, none⟩)) (fun hg => by rw [hg]; exact fad rfl) (gdB lsv (fun hg => by rw [hg]; exact ldC_S (fun w' h => h.1) rfl rfl) (gdB (.int .i64 list.length) (fun hg => by rw [hg]; exact hsl.lenV rfl) (gdB (.bool (decide ((m : Int) ≠ (list.length : Int)))) (fun hg => by rw [hg]; exact neq rfl) ?_))))))
  refine gdT (v := .bool false) (by simp [isB]) (by
    by_cases hk : D.L.length ≤ keep
    · simp [Pick, isB, hk, hm4 hk]
    · simp [Pick, isB, hk]) (pick_f (by simp) ?_)
  refine gdT (by simp [isB]) (fad rfl) (gdT (by simp [isB]) (ldC_S (fun w' h => h.2) rfl rfl) (gdT (by simp [isB]) rfl (gdT (by simp [isB]) (nilC rfl) (gdT (by simp [isB]) (fad rfl) (gdT (by simp [isB]) (ldC_S (fun w' h => h.1) rfl rfl) (gdT (by simp [isB]) rfl (gdT (by simp [isB]) hvt ?_)))))))
  have hszs : ∀ p ∈ list.take m, ∀ c ∈ p, c < 256 := fun p hp => (h.inv.szs p (List.mem_of_mem_take hp)).2
  refine gT (by simp [isB]) ((lists_c (sLs.fr hls4 hd4 (fun i _ => by simp)) (sLs.fr hlst hd4 (fun i _ => by simp)) hszs hszs (by constructor <;> (rw [hml]; omega))).use ?_)
  rintro _ w6 ⟨rfl, hF56⟩
  have hF46 : Fr [] w4 w6 := hd4.t hF56
  refine ⟨hS4 hF46, gdT (by simp [isB]) (notB rfl) (pick_f (by simp) (if_f (by simp) ?_))⟩
  refine nilC (fad (ldC_bk (hS4 hF46).1 rfl ?_))
  refine slcLo (hsl.fr hF46 (fun i _ => by simp)) hcap hm2 ?_
  intro vd hsd _ hfd
  refine hsd.lenV ?_
  let T : Nat → Nat := fun j => took snap (list.take m) + ((list.drop (m + j)).map fun p => p.length + 32).sum
  refine ⟨fun q t w' => ∃ j : Nat, j + q = list.length - m ∧ t = .int .i64 j ∧ Fr [pk] w6 w' ∧ Bk w' pk 44 [ptr pd, ptr ps, .int .i64 (16 * n - 1024), .bool whole, sv, lsv, .int .i64 safe, .int .i64 (T j : Nat)], list.length - m, ⟨0, by omega, rfl, Fr.refl _ _, ?_⟩, ?_⟩
  · have e : took snap list = T 0 := by
      show _ = took snap (list.take m) + ((list.drop m).map fun p => p.length + 32).sum
      rw [← took_split, List.take_append_drop]
    rw [← e]
    exact (hS4 hF46).1
  rintro q t w7 ⟨j, hj, rfl, hF67, hB7⟩
  refine lss (if_p (fun hlt => ?_) (fun hge => ?_))
  · have hjl : m + j < list.length := by omega
    have hne : list ≠ [] := by intro e; rw [e] at hjl; simp at hjl
    have hfpk : ∀ i ∈ fp vd, i ∉ [pk] := fun i hi hm => h.k2 (by
      simp at hm; subst hm
      rw [hFe, if_neg hne]
      exact List.mem_append.2 (.inl (hfd i hi)))
    obtain ⟨Ga, ⟨v1, e1, _, s1, _⟩, hGa⟩ := rows_get sSl hrows (m + j) hjl
    have he : ((cells.drop (m * 1)).take ((list.length - m) * 1))[j]? = some v1 := by
      have hs : sSl.size = 1 := rfl
      rw [hs, Nat.mul_one] at e1
      have := congrArg (fun l : List Value => l[0]?) e1
      rw [Nat.mul_one, Nat.mul_one, List.getElem?_take, List.getElem?_drop, if_pos (by omega)]
      simpa [List.getElem?_take, List.getElem?_drop] using this
    refine ix1 (hsd.fr hF67 hfpk) (by omega) he ?_
    have hTj : T j ≤ 200000000 := by
      have a1 := took_split snap (list.take m) (list.drop m)
      have a2 := took_split snap (list.take (m + j)) (list.drop (m + j))
      rw [List.take_append_drop] at a1 a2
      show took snap (list.take m) + ((list.drop (m + j)).map fun p => p.length + 32).sum ≤ _
      omega
    have hTs : T j = (list[m + j].length + 32) + T (j + 1) := by
      show took snap (list.take m) + ((list.drop (m + j)).map fun p => p.length + 32).sum = (list[m + j].length + 32) + (took snap (list.take m) + ((list.drop (m + (j + 1))).map fun p => p.length + 32).sum)
      rw [sum_drop hjl, show m + (j + 1) = m + j + 1 by omega]
      omega
    generalize T j = tj at *
    obtain ⟨tj1, htj1⟩ : ∃ y, T (j + 1) = y := ⟨_, rfl⟩
    rw [htj1] at hTs
    refine nilC (fad (ldC_bk hB7 rfl (s1.lenV (add64 (by omega) (sub64 (by omega) ?_)))))
    refine nilC (fad (store' hB7 (by kernel_rfl) (by simp) rfl ?_))
    intro w8 hB8 hF8 _
    refine add64 (by omega) ⟨q - 1, by omega, j + 1, by omega, by congr 1, hF67.t hF8, ?_⟩
    have e : (tj : Int) - ((list[m + j].length : Int) + 32) = (tj1 : Int) := by omega
    rw [e] at hB8
    rw [htj1]
    simpa using hB8
  · obtain rfl : j = list.length - m := by omega
    have hT : T (list.length - m) = took snap (list.take m) := by
      show took snap (list.take m) + ((list.drop (m + (list.length - m))).map fun p => p.length + 32).sum = _
      rw [List.drop_eq_nil_of_le (by omega)]
      simp
    rw [hT] at hB7
    refine ⟨fun w' => Bk w' pk 44 [ptr pd, ptr ps, .int .i64 (16 * n - 1024), .bool whole, sv, lsv, .int .i64 safe, .int .i64 (took snap (list.take m) : Nat)], hB7.drew, ?_⟩
    refine nilC (fad (ldC_S (fun w' h => h) rfl (slcHi hsl hcap hm2 ?_)))
    intro v9 hs9 hc9 hf9
    obtain ⟨F9, hl9, hF9⟩ := sLs_take hrows hm2 hs9 hc9 hf9
    have hF9' : ∀ i ∈ F9, i ∈ F2 := fun i hi => (hF9 i hi).elim (fun h' => by rw [hFe, if_neg h'.2]; exact List.mem_append.2 (.inl h'.1)) (hGF i)
    refine nilC (fad (store' hB7.drew (by kernel_rfl) (by simp) rfl ?_))
    intro w8 hB8 hF8 _
    refine nilC (fad (store' hB8 (by kernel_rfl) (by simp) (sLs.one hl9 _ (by simp)) ?_))
    intro w9 hB9 hF9b _
    refine nilC (fad (store' hB9 (by kernel_rfl) (by simp) rfl ?_))
    intro w10 hB10 hF10 _
    have hFe4 : Fr [pk] w4 w10 := ((((hF46.mono (fun i hi => by simp at hi)).t hF67).t (Fr.drew _ _)).t hF8).t (hF9b.t hF10)
    have hFe2 : Fr [pk] w2 w10 := (hF24.mono (fun i hi => by simp at hi)).t hFe4
    have hpkl := h.blk.lt
    have hF1s := hF1.size
    have hw0 := h.fr.size
    have hkx : pk ∉ skX ps2 pd bb (.slice none 0 0) tv2 := fun hm => by
      rcases skX_mem.1 hm with e | e | e | e | e
      · omega
      · exact h.kx (skX_mem.2 (by simp [e]))
      · exact h.kx (skX_mem.2 (by simp [e]))
      · simp [fp_nil] at e
      · have := n2 pk e; omega
    have hsub : ∀ i ∈ skX ps2 pd bb (.slice none 0 0) tv2, i ∈ skX ps pd bb lv tv ∨ w.heap.size ≤ i := fun i hm => by
      rcases skX_mem.1 hm with e | e | e | e | e
      · exact .inr (by omega)
      · exact .inl (skX_mem.2 (by simp [e]))
      · exact .inl (skX_mem.2 (by simp [e]))
      · simp [fp_nil] at e
      · exact .inr (by have := n2 i e; omega)
    refine ⟨trivial, ps2, pd, bb, .slice none 0 0, tv2, sv, v9, _, gen, _, at2, m, tail2, whole, snap, list.take m, F1, F9, { fr := (h.fr.trans hF04 (fun i hi => .inr (h.newx i hi))).trans hFe4 (fun i hi => .inr (by simp at hi; subst hi; exact h.newk)), blk := by simpa using hB10, sk := ?_, inv := hinv2, snp := sSl.fr hsnD hFe4 (fun i hi hm => h.k1 (by simp at hm; subst hm; exact hi)), lst := sLs.fr hl9 hFe4 (fun i hi hm => h.k2 (by simp at hm; subst hm; exact hF9' i hi)), newk := h.newk, newx := fun i hi => (hsub i hi).elim (h.newx i) (fun _ => by omega), new1 := h.new1, new2 := fun i hi => h.new2 i (hF9' i hi), kx := hkx, k1 := h.k1, k2 := fun hm => h.k2 (hF9' _ hm), x1 := ?_, x2 := ?_, len := by rw [← h.len]; exact D.at_length keep, ll := Nat.zero_le _, n80 := h.n80, cnt := by rw [hml]; omega, bnd' := by omega }⟩
    · rw [hml] at hsk2 ⊢
      exact hsk2.fr hFe2 (fun i hi hm => hkx (by simp at hm; subst hm; exact hi))
    · intro i hi hm
      exact (hsub i hi).elim (fun h' => h.x1 i h' hm) (fun h' => by have := sSl.lt h.snp i hm; omega)
    · intro i hi hm
      exact (hsub i hi).elim (fun h' => h.x2 i h' (hF9' i hm)) (fun h' => by have := sLs.lt h.lst i (hF9' i hm); omega)
end Go.Proofs.Ytmlaconjeplhpaa
