/- The law StoreAgain, for arguments that stand in memory. -/
import Derived.Test.YtmlaconjeplhpaaStoreR
set_option linter.unusedVariables false
set_option linter.unusedSimpArgs false
set_option maxRecDepth 20000
namespace Go.Proofs.Ytmlaconjeplhpaa
open Go Go.Vc
open St (Dsk halfN openF eldest)

theorem again_c {w : World} {n : Int} {x : Value} {ops : List (Int × Int × List Nat)} {F : List Nat} (hx : aOps.rd w [x] ops F) (hl : ∀ o ∈ ops, o.2.2.length ≤ 1000000000) :
    CallF Try.prog 7 #[.int .i64 n, x] w fun r w' => r = .bool true ∧ Fr [] w w' := by
  refine C_furlonglaw15_StoreAgain_link ?_
  unfold C_furlonglaw15_StoreAgain
  refine awake_c.use ?_
  rintro _ w1 ⟨rfl, hF1⟩
  refine notB (if_f rfl ?_)
  refine blocks_c.use ?_
  rintro _ w1' ⟨⟨b, hb1, hb2, rfl⟩, hw1⟩
  rw [hw1]
  refine (begin_c (n := b) (by omega)).use ?_
  rintro r w2 ⟨cells, rfl, hcl, hco, hF2, hks⟩
  refine ext0 (ext1 ?_)
  refine alloc_n (n := 8) (by kernel_rfl) ?_
  intro pk w3 l3 hl3 hpk hB3 hF3 _
  refine store_all (n := 8) (vs := cells) hB3 (by kernel_rfl) hl3 hcl (by omega) hco ?_
  intro w4 hB4 hF4 _
  have hk4 : Ks w1 w4 pk b 1 := hks pk w4 (hF3.trans hF4 (fun i hi => .inr (by simp at hi; omega))) (by omega) hB4
  refine notB (if_f rfl ?_)
  obtain ⟨oc, Go', hcap, hsl, hrows, _⟩ := list_open (aOps.fr hx hF1 (fun i _ => by simp))
  refine hsl.lenV ?_
  refine ⟨fun _ _ w' => Ks w1 w' pk b 155, ?_, ?_⟩
  · rintro _ _ w5 ⟨ps, pd, bb, lv, tv, sv, lsv, D, gen, life, at', safe, tail, whole, snap, list, F1, F2, h⟩
    have hlen := h.len
    have hn80 := h.n80
    have hcnt := h.cnt
    obtain ⟨m, at2, tail2, hm1, hm2, hm3, hm4, hop, hinv2⟩ := St.sinv_crash h.inv (by omega) D.L.length
    obtain rfl := hm4 (Nat.le_refl _)
    rw [D.at_all, List.take_length] at hop hinv2
    obtain ⟨B, hB⟩ : ∃ B, D.B = B := ⟨_, rfl⟩
    rw [hB] at hop hlen
    have hpdx : ∀ i ∈ [pd], i ∈ skX ps pd bb lv tv := fun i hi => skX_mem.2 (by simp at hi; simp [hi])
    have hszs := fun p hp => (h.inv.szs p hp).2
    refine ⟨fun m _ t w' => ∃ j : Nat, j + m = 3 ∧ t = .int .i64 j ∧ Fr [] w1 w' ∧ Bk w' pk 44 [ptr pd, ptr ps, .int .i64 (16 * b - 1024), .bool whole, sv, lsv, .int .i64 safe, .int .i64 (took snap list : Nat)] ∧ (∃ lv' L, Dk w' pd bb lv' ⟨B, L⟩) ∧ sSl.rd w' [sv] snap F1 ∧ sLs.rd w' [lsv] list F2, 3, ⟨0, rfl, rfl, h.fr, h.blk, ⟨lv, D.L, by have := h.sk.dk; rw [← hB]; exact this⟩, h.snp, h.lst⟩, ?_⟩
    rintro m _ _ w6 ⟨j, hj, rfl, hF6, hpk6, ⟨lv', L, hd6⟩, hsn6, hls6⟩
    refine lss (if_p (fun hlt => ?_) (fun hge => ⟨rfl, hF1.t hF6⟩))
    refine fad (ldC_bk hpk6 rfl ((open_c hd6 (.inl (by show 2 ≤ B.length; omega))).use ?_))
    rintro r w7 ⟨ps2, tv2, sv2, lv2, G2, rfl, hsk2, hsn2, hls2, hF7, n1, n2, n3, n4, n5, n6, n7, n8⟩
    rw [show (Dsk.mk B L).B = B from rfl, hop] at hsk2 hsn2 hls2
    simp only [show (Dsk.mk B L).B = B from rfl, hop]
    obtain ⟨G3, hls3, hG3⟩ := own_ls hls2
    refine ext0 (ext1 (ext2 ?_))
    refine alloc_n (n := 3) (by kernel_rfl) ?_
    intro b7 w8 l8 hl8 hb8 hB8 hF8 _
    refine store_all (vs := [.bool whole, sv2, lv2]) hB8 und44 hl8 rfl (by omega) (found_one (s := []) hsn2 hls2) ?_
    intro w9 hB9 hF9 _
    have hF79 : Fr [] w7 w9 := hF8.trans hF9 (fun i hi => .inr (by simp at hi; omega))
    have hd9 : Fr [] w9 (World.drew w9) := Fr.drew [] w9
    have hF69 : Fr [pd] w6 w9 := hF7.trans hF79 (fun i hi => by simp at hi)
    have hpk9 := hpk6.fr hF69 (fun hm => h.kx (hpdx _ hm))
    have hsn9 := sSl.fr hsn6 hF69 (fun i hi hm => h.x1 i (hpdx i hm) hi)
    have hls9 := sLs.fr hls6 hF69 (fun i hi hm => h.x2 i (hpdx i hm) hi)
    have hsnS := (sSl_sl hsn9).1
    obtain ⟨cells, G, hcap, hsl, hrows, _⟩ := list_open hls9
    let S : World → Prop := fun w' => Bk w' pk 44 [ptr pd, ptr ps, .int .i64 (16 * b - 1024), .bool whole, sv, lsv, .int .i64 safe, .int .i64 (took snap list : Nat)] ∧ Bk w' b7 33 [.bool whole, sv2, lv2]
    have hS : ∀ {w'}, Fr [] w9 w' → S w' := fun f => ⟨hpk9.fr f (by simp), hB9.fr f (by simp)⟩
    refine ⟨S, hS hd9, ?_⟩
    refine neq (gdT (by simp [isB]) (fad rfl) (gdT (by simp [isB]) (ldC_S (fun w' h => h.2) rfl rfl) (gdT (by simp [isB]) (fad rfl) (gdT (by simp [isB]) (ldC_S (fun w' h => h.1) rfl rfl) (gdT (by simp [isB]) (neq_bool (by kernel_rfl) rfl) (pick_f (by simp) ?_))))))
    refine gdT (by simp [isB]) (fad rfl) (gdT (by simp [isB]) (ldC_S (fun w' h => h.2) rfl rfl) (gdT (by simp [isB]) (fad rfl) (gdT (by simp [isB]) (ldC_S (fun w' h => h.1) rfl rfl) ?_)))
    refine gT (by simp [isB]) ((bytes_c ((hsn2.sl.fr hF79 (fun i _ => by simp)).fr hd9 (fun i _ => by simp)) h.inv.snp.2 (hsnS.fr hd9 (fun i _ => by simp)) h.inv.snp.2).use ?_)
    rintro _ w10 ⟨rfl, hw10⟩
    rw [hw10]
    refine ⟨hS hd9, gdT (by simp [isB]) (notB rfl) (pick_f (by simp) ?_)⟩
    refine gdT (by simp [isB]) (fad rfl) (gdT (by simp [isB]) (ldC_S (fun w' h => h.2) rfl rfl) (gdT (by simp [isB]) (fad rfl) (gdT (by simp [isB]) (ldC_S (fun w' h => h.1) rfl rfl) ?_)))
    refine gT (by simp [isB]) ((lists_c (sLs.fr (sLs.fr hls3 hF79 (fun i _ => by simp)) hd9 (fun i _ => by simp)) (sLs.fr hls9 hd9 (fun i _ => by simp)) hszs hszs (by constructor <;> (show list.length ≤ 1000000000; omega))).use ?_)
    rintro _ w11 ⟨rfl, hF11⟩
    have hF911 := hd9.t hF11
    have hsk11 := hsk2.fresh (hF79.t hF911)
    refine ⟨hS hF911, gdT (by simp [isB]) (notB rfl) (pick_f (by simp) ?_)⟩
    refine gdT (by simp [isB]) rfl (gdT (by simp [isB]) (fad rfl) (gdT (by simp [isB]) (ldC_S (fun w' h => h.1) rfl rfl) (gdT (by simp [isB]) (hsl.lenV rfl) ?_)))
    refine gT (by simp [isB]) ((slen_c hsk11).use ?_)
    rintro _ w12 ⟨rfl, hw12⟩
    rw [hw12]
    refine ⟨hS hF911, gdT (by simp [isB]) (neq rfl) (pick_f (by simp) ?_)⟩
    refine gdT (by simp [isB]) rfl (gdT (by simp [isB]) (fad rfl) (gdT (by simp [isB]) (ldC_S (fun w' h => h.1) rfl rfl) (gdT (by simp [isB]) (hsl.lenV rfl) ?_)))
    refine gT (by simp [isB]) ((ssafe_c hsk11).use ?_)
    rintro _ w13 ⟨rfl, hw13⟩
    rw [hw13]
    refine ⟨hS hF911, gdT (by simp [isB]) (neq rfl) (pick_f (by simp) (if_f (by simp) ?_))⟩
    refine add64 (by omega) ⟨m - 1, by omega, j + 1, by omega, by congr 1, ?_, (hS hF911).1, ⟨_, _, hsk11.dk⟩, sSl.fr hsn9 hF911 (fun i _ => by simp), sLs.fr hls9 hF911 (fun i _ => by simp)⟩
    exact (hF6.trans hF69 (fun i hi => .inr (h.newx i (hpdx i hi)))).t hF911
  refine ⟨fun m _ t w' => ∃ j : Nat, j + m = ops.length ∧ t = .int .i64 j ∧ j ≤ 100 ∧ Ks w1 w' pk b (1 + j), ops.length, ⟨0, by omega, rfl, by omega, hk4⟩, ?_⟩
  rintro m _ _ w5 ⟨j, hj, rfl, hj150, h5⟩
  refine lss (if_p (fun hlt => ?_) (fun hge => h5.up (by omega) (by omega)))
  have hjl : j < ops.length := by omega
  refine ixN (hsl.fr h5.frn (fun i _ => by simp)) hjl ?_
  obtain ⟨Gj, hrd, _⟩ := rows_get aOp hrows j hjl
  obtain ⟨pv, Fp, hcs, hpv, hpb⟩ := of_aOp hrd
  have h3 : aOp.size = 3 := rfl
  rw [h3] at hcs
  have hcs' : List.take 3 (List.drop (j * 3) oc) = [.int .i64 ops[j].1, .int .i64 ops[j].2.1, pv] := hcs
  rw [hcs']
  refine alloc_n (n := 3) (by kernel_rfl) ?_
  intro bo w6 l6 hl6 hbo hB6 hF6 _
  refine store_all (n := 3) (vs := [.int .i64 ops[j].1, .int .i64 ops[j].2.1, pv]) hB6 (by kernel_rfl) hl6 rfl (by omega) (fun v hv => by simp at hv; rcases hv with rfl | rfl | rfl; rfl; rfl; exact sSl.one hpv _ (by simp)) ?_
  intro w7 hB7 hF7 _
  have h7 := h5.fresh (hF6.trans hF7 (fun i hi => .inr (by simp at hi; omega)))
  obtain ⟨hps, hpx⟩ := sSl_sl hpv
  have hpl := hl _ (List.getElem_mem hjl)
  have rest : j < 100 → LdA (At w7) 3 (.pointer (some ⟨bo, 0, none⟩)) (fun t34_44 =>
       CallF Try.prog 31 #[ptr pk, t34_44] w7 fun t35_45 w_46 =>
       Un Try.prog (At w_46) .not t35_45 fun t36_47 =>
       If t36_47 (
        (Value.bool false = .bool true ∧ Fr [] w w_46)) (
        Bin Try.prog (At w_46) .add 3 false true (.int .i64 j) (.int .i64 1) fun t37_48 =>
        ∃ m_49, m_49 < m ∧
        ∃ j : Nat, j + m_49 = ops.length ∧ t37_48 = .int .i64 j ∧ j ≤ 100 ∧ Ks w1 w_46 pk b (1 + j))) := by
    intro hj1
    refine ldA_bk hB7 (by simp) ?_
    refine (do_c h7 (by omega) hpv hpb hpl).use ?_
    rintro _ w8 ⟨rfl, h8⟩
    refine notB (if_f rfl (add64 (by omega) ⟨m - 1, by omega, j + 1, by omega, by congr 1, by omega, h8⟩))
  refine geq ?_
  by_cases hbig : 100 ≤ j
  · refine gdF (by simp [isB]; omega) (gdF (by simp [isB]; omega) (gdF (by simp [isB]; omega) (gdF (by simp [isB]; omega) (pick_t (by simp; omega) (if_t rfl (h7.up (by omega) (by omega)))))))
  · refine gdT (by simp [isB]; omega) (fad rfl) (gdT (by simp [isB]; omega) (ldC_bk hB7 rfl rfl) (gdT (by simp [isB]; omega) (hps.lenV rfl) (gdT (by simp [isB]; omega) (gtr rfl) (pick_f (by simp; omega) (if_p (fun _ => h7.up (by omega) (by omega)) (fun _ => rest (by omega)))))))
end Go.Proofs.Ytmlaconjeplhpaa
