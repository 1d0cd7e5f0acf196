/- The law StoreStale, for arguments that stand in memory. The law StoreAgain, for arguments that stand in memory. The law StoreNil, for bytes that stand in memory. The law StoreNil, for bytes that stand in memory. The law StoreAny, for arguments that stand in memory. -/
import Derived.Test.YtmlaconjeplhpaaME
set_option linter.unusedVariables false
set_option linter.unusedSimpArgs false
set_option maxRecDepth 20000
namespace Go.Proofs.Ytmlaconjeplhpaa
open Go Go.Vc

theorem gdC {g : Bool} {A : (Value → World → Prop) → Prop} {w : World} {k : Value → World → Prop} (Q : Value → World → Prop) (hA : g = true → A Q) (hf : g = false → Q undef w) (hk : ∀ v w', Q v w' → k v w') : Gd g A w k := ⟨Q, hA, hf, hk⟩
theorem stale_c {w : World} {x y z : Value} {list : List (List Nat)} {keeps : List Int} {p F F1 F2 : List Nat} (hx : aLists.rd w [x] list F) (hy : aInts.rd w [y] keeps F1) (hz : aBytes.rd w [z] p F2) :
    CallF Try.prog 5 #[x, y, z] w fun r w' => r = .bool true ∧ Fr [] w w' := by
  refine C_furlonglaw15_StoreStale_link ?_
  unfold C_furlonglaw15_StoreStale
  refine awake_c.use ?_
  rintro _ w1 ⟨rfl, hF1⟩
  refine notB (if_f rfl ?_)
  obtain ⟨cl, Gl, hcapl, hsll, hrows, _⟩ := list_open (aLists.fr hx hF1 (fun i _ => by simp))
  obtain ⟨ck, Gk, hcapk, hslk, hrowk, _⟩ := list_open (aInts.fr hy hF1 (fun i _ => by simp))
  obtain ⟨rfl, rfl, _⟩ := rows_ints.1 hrowk
  obtain ⟨z', Fz, ez, hsz, hzb⟩ := of_aBytes (aBytes.fr hz hF1 (fun i _ => by simp))
  obtain rfl := (List.cons.inj ez).1
  obtain ⟨hzs, _⟩ := sSl_sl hsz
  refine hsll.lenV (gtr ?_)
  by_cases h30 : 30 < list.length
  · refine gdF (by simp [isB]; omega) (gdF (by simp [isB]; omega) (gdF (by simp [isB]; omega) (pick_t (by simp; omega) (if_t rfl ⟨rfl, hF1⟩))))
  refine gdT (by simp [isB]; omega) rfl (gdT (by simp [isB]; omega) (hzs.lenV rfl) (gdT (by simp [isB]; omega) (gtr rfl) (pick_f (by simp; omega) (if_p (fun _ => ⟨rfl, hF1⟩) (fun hp3 => ?_)))))
  refine (begin_c (n := 1200) (by omega)).use ?_
  rintro r w2 ⟨cells, rfl, hcl, hco, hF2, hks⟩
  refine ext0 (ext1 ?_)
  refine alloc_n (n := 8) (by kernel_rfl) ?_
  intro pk w3 l3 hl3 hpk hB3 hF3 _
  refine store_all (n := 8) (vs := cells) hB3 (by kernel_rfl) hl3 hcl (by omega) hco ?_
  intro w4 hB4 hF4 _
  have hk4 : Ks w1 w4 pk 1200 1 := hks pk w4 (hF3.trans hF4 (fun i hi => .inr (by simp at hi; omega))) (by omega) hB4
  refine notB (if_f rfl (hsll.lenV ?_))
  refine ⟨fun m _ t w' => ∃ j : Nat, j + m = list.length ∧ t = .int .i64 j ∧ Ks w1 w' pk 1200 (1 + 4 * j), list.length, ⟨0, by omega, rfl, hk4⟩, ?_⟩
  rintro m _ _ w5 ⟨j, hj, rfl, h5⟩
  refine lss (if_p (fun hlt => ?_) (fun hge => ?_))
  · have hjl : j < list.length := by omega
    obtain ⟨Gj, hrd, _⟩ := rows_get aBytes hrows j hjl
    obtain ⟨pv, Fp, hcs, hpv, hpb⟩ := of_aBytes hrd
    have he : cl[j]? = some pv := by
      have hs : aBytes.size = 1 := rfl
      rw [hs, Nat.mul_one] at hcs
      have := congrArg (fun l : List Value => l[0]?) hcs
      simpa [List.getElem?_take, List.getElem?_drop] using this
    obtain ⟨hps, _⟩ := sSl_sl hpv
    refine ix1 (hsll.fr h5.frn (fun i _ => by simp)) hjl he (hps.lenV (gtr (if_p (fun _ => ⟨rfl, hF1.t h5.frn⟩) (fun h2000 => ?_))))
    refine hslk.lenV (lss ?_)
    refine ⟨fun t w' => (∃ kp : Nat, t = .int .i64 kp) ∧ Ks w1 w' pk 1200 (1 + 4 * j), ?_, if_p (fun hk => ?_) (fun hk => ⟨⟨0, rfl⟩, h5⟩)⟩
    · rintro _ w6 ⟨⟨kp, rfl⟩, h6⟩
      refine (append_c h6 (by omega) hpv hpb (by omega)).use ?_
      rintro _ w7 ⟨rfl, h7⟩
      refine notB (gdT (by simp [isB]) rfl (gdT (by simp [isB]) (rem (by omega) rfl) (gdT (by simp [isB]) (eql rfl) (gdT (by simp [isB]) rfl ?_))))
      obtain ⟨c3, hc3⟩ : ∃ c, decide (((j : Int).tmod 3) = 0) = c := ⟨_, rfl⟩
      rw [hc3]
      refine gdB z (fun _ => rfl) ?_
      refine gdC (fun v w' => v = (bif isB (.bool c3) true then .bool true else undef) ∧ Ks w1 w' pk 1200 (3 + 4 * j)) ?_ ?_ ?_
      · intro hg
        rw [hg]
        refine (append_c h7 (by omega) hsz hzb (by omega)).use ?_
        rintro _ w8 ⟨rfl, h8⟩
        exact ⟨rfl, h8.up (by omega) (by omega)⟩
      · intro hg
        rw [hg]
        exact ⟨rfl, h7.up (by omega) (by omega)⟩
      rintro _ w8 ⟨rfl, h8⟩
      refine gdB (.bool false) (fun hg => by rw [hg]; exact notB rfl) ?_
      refine gdT (v := .bool false) (by simp [isB]) (by cases c3 <;> simp [Pick, isB]) (pick_f (by simp) ?_)
      refine gdT (by simp [isB]) rfl (gT (by simp [isB]) ((crash_c kp h8 (by omega)).use ?_))
      rintro _ w9 ⟨rfl, h9⟩
      refine gdT (by simp [isB]) (notB rfl) (pick_f (by simp) ?_)
      refine gdT (by simp [isB]) rfl (gdT (by simp [isB]) (rem (by omega) rfl) (gdT (by simp [isB]) (eql rfl) (gdT (by simp [isB]) rfl ?_)))
      obtain ⟨c4, hc4⟩ : ∃ c, decide (((j : Int).tmod 4) = 3) = c := ⟨_, rfl⟩
      rw [hc4]
      refine gdB pv (fun _ => rfl) ?_
      refine gdC (fun v w' => v = (bif isB (.bool c4) true then .bool true else undef) ∧ Ks w1 w' pk 1200 (5 + 4 * j)) ?_ ?_ ?_
      · intro hg
        rw [hg]
        refine (checkpoint_c h9 (by omega) hpv hpb (by omega)).use ?_
        rintro _ w10 ⟨rfl, h10⟩
        exact ⟨rfl, h10.up (by omega) (by omega)⟩
      · intro hg
        rw [hg]
        exact ⟨rfl, h9.up (by omega) (by omega)⟩
      rintro _ w10 ⟨rfl, h10⟩
      refine gdB (.bool false) (fun hg => by rw [hg]; exact notB rfl) ?_
      refine gdT (v := .bool false) (by simp [isB]) (by cases c4 <;> simp [Pick, isB]) (pick_f (by simp) ?_)
      refine if_f rfl (add64 (by omega) ⟨m - 1, by omega, j + 1, by omega, by congr 1, h10.up (by omega) (by omega)⟩)
    · have hkl : j < keeps.length := by omega
      have hek : (keeps.map (Value.int .i64))[j]? = some (.int .i64 keeps[j]) := by
        rw [List.getElem?_map, List.getElem?_eq_getElem hkl]; rfl
      refine ix1 (hslk.fr h5.frn (fun i _ => by simp)) hkl hek (max2 (min2 ⟨?_, h5⟩))
      refine ⟨Int.toNat _, congrArg _ (Int.toNat_of_nonneg ?_).symm⟩
      (repeat' split) <;> omega
  · refine (crash_c 0 h5 (by omega)).use ?_
    rintro _ w6 ⟨rfl, h6⟩
    exact ⟨rfl, hF1.t h6.frn⟩
end Go.Proofs.Ytmlaconjeplhpaa

set_option linter.unusedVariables false
set_option linter.unusedSimpArgs false
set_option maxRecDepth 20000
namespace Go.Proofs.Ytmlaconjeplhpaa
open Go Go.Vc
open St (Dsk halfN openF eldest)

theorem again_c {w : World} {n : Int} {x : Value} {ops : List (Int × Int × List Nat)} {F : List Nat} (hx : aOps.rd w [x] ops F) (hl : ∀ o ∈ ops, o.2.2.length ≤ 1000000000) :
    CallF Try.prog 7 #[.int .i64 n, x] w fun r w' => r = .bool true ∧ Fr [] w w' := by
  refine C_furlonglaw15_StoreAgain_link ?_
  unfold C_furlonglaw15_StoreAgain
  refine awake_c.use ?_
  rintro _ w1 ⟨rfl, hF1⟩
  refine notB (if_f rfl ?_)
  refine blocks_c.use ?_
  rintro _ w1' ⟨⟨b, hb1, hb2, rfl⟩, hw1⟩
  rw [hw1]
  refine (begin_c (n := b) (by omega)).use ?_
  rintro r w2 ⟨cells, rfl, hcl, hco, hF2, hks⟩
  refine ext0 (ext1 ?_)
  refine alloc_n (n := 8) (by kernel_rfl) ?_
  intro pk w3 l3 hl3 hpk hB3 hF3 _
  refine store_all (n := 8) (vs := cells) hB3 (by kernel_rfl) hl3 hcl (by omega) hco ?_
  intro w4 hB4 hF4 _
  have hk4 : Ks w1 w4 pk b 1 := hks pk w4 (hF3.trans hF4 (fun i hi => .inr (by simp at hi; omega))) (by omega) hB4
  refine notB (if_f rfl ?_)
  obtain ⟨oc, Go', hcap, hsl, hrows, _⟩ := list_open (aOps.fr hx hF1 (fun i _ => by simp))
  refine hsl.lenV ?_
  refine ⟨fun _ _ w' => Ks w1 w' pk b 155, ?_, ?_⟩
  · rintro _ _ w5 ⟨ps, pd, bb, lv, tv, sv, lsv, D, gen, life, at', safe, tail, whole, snap, list, F1, F2, h⟩
    have hlen := h.len
    have hn80 := h.n80
    have hcnt := h.cnt
    obtain ⟨m, at2, tail2, hm1, hm2, hm3, hm4, hop, hinv2⟩ := St.sinv_crash h.inv (by omega) D.L.length
    obtain rfl := hm4 (Nat.le_refl _)
    rw [D.at_all, List.take_length] at hop hinv2
    obtain ⟨B, hB⟩ : ∃ B, D.B = B := ⟨_, rfl⟩
    rw [hB] at hop hlen
    have hpdx : ∀ i ∈ [pd], i ∈ skX ps pd bb lv tv := fun i hi => skX_mem.2 (by simp at hi; simp [hi])
    have hszs := fun p hp => (h.inv.szs p hp).2
    refine ⟨fun m _ t w' => ∃ j : Nat, j + m = 3 ∧ t = .int .i64 j ∧ Fr [] w1 w' ∧ Bk w' pk 44 [ptr pd, ptr ps, .int .i64 (16 * b - 1024), .bool whole, sv, lsv, .int .i64 safe, .int .i64 (took snap list : Nat)] ∧ (∃ lv' L, Dk w' pd bb lv' ⟨B, L⟩) ∧ sSl.rd w' [sv] snap F1 ∧ sLs.rd w' [lsv] list F2, 3, ⟨0, rfl, rfl, h.fr, h.blk, ⟨lv, D.L, by have := h.sk.dk; rw [← hB]; exact this⟩, h.snp, h.lst⟩, ?_⟩
    rintro m _ _ w6 ⟨j, hj, rfl, hF6, hpk6, ⟨lv', L, hd6⟩, hsn6, hls6⟩
    refine lss (if_p (fun hlt => ?_) (fun hge => ⟨rfl, hF1.t hF6⟩))
    refine fad (ldC_bk hpk6 rfl ((open_c hd6 (.inl (by show 2 ≤ B.length; omega))).use ?_))
    rintro r w7 ⟨ps2, tv2, sv2, lv2, G2, rfl, hsk2, hsn2, hls2, hF7, n1, n2, n3, n4, n5, n6, n7, n8⟩
    rw [show (Dsk.mk B L).B = B from rfl, hop] at hsk2 hsn2 hls2
    simp only [show (Dsk.mk B L).B = B from rfl, hop]
    obtain ⟨G3, hls3, hG3⟩ := own_ls hls2
    refine ext0 (ext1 (ext2 ?_))
    refine alloc_n (n := 3) (by kernel_rfl) ?_
    intro b7 w8 l8 hl8 hb8 hB8 hF8 _
    refine store_all (vs := [.bool whole, sv2, lv2]) hB8 und44 hl8 rfl (by omega) (found_one (s := []) hsn2 hls2) ?_
    intro w9 hB9 hF9 _
    have hF79 : Fr [] w7 w9 := hF8.trans hF9 (fun i hi => .inr (by simp at hi; omega))
    have hd9 : Fr [] w9 (World.drew w9) := Fr.drew [] w9
    have hF69 : Fr [pd] w6 w9 := hF7.trans hF79 (fun i hi => by simp at hi)
    have hpk9 := hpk6.fr hF69 (fun hm => h.kx (hpdx _ hm))
    have hsn9 := sSl.fr hsn6 hF69 (fun i hi hm => h.x1 i (hpdx i hm) hi)
    have hls9 := sLs.fr hls6 hF69 (fun i hi hm => h.x2 i (hpdx i hm) hi)
    have hsnS := (sSl_sl hsn9).1
    obtain ⟨cells, G, hcap, hsl, hrows, _⟩ := list_open hls9
    let S : World → Prop := fun w' => Bk w' pk 44 [ptr pd, ptr ps, .int .i64 (16 * b - 1024), .bool whole, sv, lsv, .int .i64 safe, .int .i64 (took snap list : Nat)] ∧ Bk w' b7 33 [.bool whole, sv2, lv2]
    have hS : ∀ {w'}, Fr [] w9 w' → S w' := fun f => ⟨hpk9.fr f (by simp), hB9.fr f (by simp)⟩
    refine ⟨S, hS hd9, ?_⟩
    refine neq (gdT (by simp [isB]) (fad rfl) (gdT (by simp [isB]) (ldC_S (fun w' h => h.2) rfl rfl) (gdT (by simp [isB]) (fad rfl) (gdT (by simp [isB]) (ldC_S (fun w' h => h.1) rfl rfl) (gdT (by simp [isB]) (neq_bool (by kernel_rfl) rfl) (pick_f (by simp) ?_))))))
    refine gdT (by simp [isB]) (fad rfl) (gdT (by simp [isB]) (ldC_S (fun w' h => h.2) rfl rfl) (gdT (by simp [isB]) (fad rfl) (gdT (by simp [isB]) (ldC_S (fun w' h => h.1) rfl rfl) ?_)))
    refine gT (by simp [isB]) ((bytes_c ((hsn2.sl.fr hF79 (fun i _ => by simp)).fr hd9 (fun i _ => by simp)) h.inv.snp.2 (hsnS.fr hd9 (fun i _ => by simp)) h.inv.snp.2).use ?_)
    rintro _ w10 ⟨rfl, hw10⟩
    rw [hw10]
    refine ⟨hS hd9, gdT (by simp [isB]) (notB rfl) (pick_f (by simp) ?_)⟩
    refine gdT (by simp [isB]) (fad rfl) (gdT (by simp [isB]) (ldC_S (fun w' h => h.2) rfl rfl) (gdT (by simp [isB]) (fad rfl) (gdT (by simp [isB]) (ldC_S (fun w' h => h.1) rfl rfl) ?_)))
    refine gT (by simp [isB]) ((lists_c (sLs.fr (sLs.fr hls3 hF79 (fun i _ => by simp)) hd9 (fun i _ => by simp)) (sLs.fr hls9 hd9 (fun i _ => by simp)) hszs hszs (by constructor <;> (show list.length ≤ 1000000000; omega))).use ?_)
    rintro _ w11 ⟨rfl, hF11⟩
    have hF911 := hd9.t hF11
    have hsk11 := hsk2.fresh (hF79.t hF911)
    refine ⟨hS hF911, gdT (by simp [isB]) (notB rfl) (pick_f (by simp) ?_)⟩
    refine gdT (by simp [isB]) rfl (gdT (by simp [isB]) (fad rfl) (gdT (by simp [isB]) (ldC_S (fun w' h => h.1) rfl rfl) (gdT (by simp [isB]) (hsl.lenV rfl) ?_)))
    refine gT (by simp [isB]) ((slen_c hsk11).use ?_)
    rintro _ w12 ⟨rfl, hw12⟩
    rw [hw12]
    refine ⟨hS hF911, gdT (by simp [isB]) (neq rfl) (pick_f (by simp) ?_)⟩
    refine gdT (by simp [isB]) rfl (gdT (by simp [isB]) (fad rfl) (gdT (by simp [isB]) (ldC_S (fun w' h => h.1) rfl rfl) (gdT (by simp [isB]) (hsl.lenV rfl) ?_)))
    refine gT (by simp [isB]) ((ssafe_c hsk11).use ?_)
    rintro _ w13 ⟨rfl, hw13⟩
    rw [hw13]
    refine ⟨hS hF911, gdT (by simp [isB]) (neq rfl) (pick_f (by simp) (if_f (by simp) ?_))⟩
    refine add64 (by omega) ⟨m - 1, by omega, j + 1, by omega, by congr 1, ?_, (hS hF911).1, ⟨_, _, hsk11.dk⟩, sSl.fr hsn9 hF911 (fun i _ => by simp), sLs.fr hls9 hF911 (fun i _ => by simp)⟩
    exact (hF6.trans hF69 (fun i hi => .inr (h.newx i (hpdx i hi)))).t hF911
  refine ⟨fun m _ t w' => ∃ j : Nat, j + m = ops.length ∧ t = .int .i64 j ∧ j ≤ 100 ∧ Ks w1 w' pk b (1 + j), ops.length, ⟨0, by omega, rfl, by omega, hk4⟩, ?_⟩
  rintro m _ _ w5 ⟨j, hj, rfl, hj150, h5⟩
  refine lss (if_p (fun hlt => ?_) (fun hge => h5.up (by omega) (by omega)))
  have hjl : j < ops.length := by omega
  refine ixN (hsl.fr h5.frn (fun i _ => by simp)) hjl ?_
  obtain ⟨Gj, hrd, _⟩ := rows_get aOp hrows j hjl
  obtain ⟨pv, Fp, hcs, hpv, hpb⟩ := of_aOp hrd
  have h3 : aOp.size = 3 := rfl
  rw [h3] at hcs
  have hcs' : List.take 3 (List.drop (j * 3) oc) = [.int .i64 ops[j].1, .int .i64 ops[j].2.1, pv] := hcs
  rw [hcs']
  refine alloc_n (n := 3) (by kernel_rfl) ?_
  intro bo w6 l6 hl6 hbo hB6 hF6 _
  refine store_all (n := 3) (vs := [.int .i64 ops[j].1, .int .i64 ops[j].2.1, pv]) hB6 (by kernel_rfl) hl6 rfl (by omega) (fun v hv => by simp at hv; rcases hv with rfl | rfl | rfl; rfl; rfl; exact sSl.one hpv _ (by simp)) ?_
  intro w7 hB7 hF7 _
  have h7 := h5.fresh (hF6.trans hF7 (fun i hi => .inr (by simp at hi; omega)))
  obtain ⟨hps, hpx⟩ := sSl_sl hpv
  have hpl := hl _ (List.getElem_mem hjl)
  have rest : j < 100 → LdA (At w7) 3 (.pointer (some ⟨bo, 0, none⟩)) (fun t34_44 =>
       CallF Try.prog 31 #[ptr pk, t34_44] w7 fun t35_45 w_46 =>
       Un Try.prog (At w_46) .not t35_45 fun t36_47 =>
       If t36_47 (
        (Value.bool false = .bool true ∧ Fr [] w w_46)) (
        Bin Try.prog (At w_46) .add 3 false true (.int .i64 j) (.int .i64 1) fun t37_48 =>
        ∃ m_49, m_49 < m ∧
        ∃ j : Nat, j + m_49 = ops.length ∧ t37_48 = .int .i64 j ∧ j ≤ 100 ∧ Ks w1 w_46 pk b (1 + j))) := by
    intro hj1
    refine ldA_bk hB7 (by simp) ?_
    refine (do_c h7 (by omega) hpv hpb hpl).use ?_
    rintro _ w8 ⟨rfl, h8⟩
    refine notB (if_f rfl (add64 (by omega) ⟨m - 1, by omega, j + 1, by omega, by congr 1, by omega, h8⟩))
  refine geq ?_
  by_cases hbig : 100 ≤ j
  · refine gdF (by simp [isB]; omega) (gdF (by simp [isB]; omega) (gdF (by simp [isB]; omega) (gdF (by simp [isB]; omega) (pick_t (by simp; omega) (if_t rfl (h7.up (by omega) (by omega)))))))
  · refine gdT (by simp [isB]; omega) (fad rfl) (gdT (by simp [isB]; omega) (ldC_bk hB7 rfl rfl) (gdT (by simp [isB]; omega) (hps.lenV rfl) (gdT (by simp [isB]; omega) (gtr rfl) (pick_f (by simp; omega) (if_p (fun _ => h7.up (by omega) (by omega)) (fun _ => rest (by omega)))))))
end Go.Proofs.Ytmlaconjeplhpaa

set_option linter.unusedVariables false
set_option linter.unusedSimpArgs false
set_option maxRecDepth 20000
namespace Go.Proofs.Ytmlaconjeplhpaa
open Go Go.Vc

theorem own_set {w : World} {T : TypeId} {v u : Value} {n j : Nat} {t : TypeId} {xs : List Value} {κ κ2 : IntKind} {z : Int} {k : Value → World → Prop} (h : Own w T 1 v n xs) (hj : j < n) (hz : xs[j]? = some (.int κ2 z)) (hs : sizeT Try.prog t = some 1) (hu : u.oneCell' = true)
    (hk : ∀ w', Own w' T 1 v n (xs.set j u) → Fr (fp v) w w' → (∀ a s, w.cell? a = some s → (∀ κ z, s ≠ .int κ z) → w'.cell? a = some s) → k undef w') : IAdS 1 v (.int κ j) fun a => DoU Try.prog (Instr.storeAt t a u) w k := by
  obtain ⟨hl, h0 | ⟨g, cap, cur, rfl, hb, hg, hn, hm, hcs, htk⟩⟩ := h
  · omega
  refine ixRow hj ?_
  rw [Nat.mul_one]
  have hB : Bk w g T cur.toList := by unfold Bk; rw [Array.toArray_toList]; exact hg
  have hcz : cur.toList[j]? = some (.int κ2 z) := by rw [← htk, List.getElem?_take, if_pos (by omega)] at hz; exact hz
  refine store' hB hs (by rw [Array.length_toList]; omega) hu ?_
  intro w' hB' hF' _
  refine hk w' ⟨by rw [List.length_set]; exact hl, .inr ⟨g, cap, (cur.toList.set j u).toArray, rfl, hb, hB', hn, hm, by simp [hcs], ?_⟩⟩ (hF'.mono (fun i hi => .inl (by simpa [fp_some] using hi))) ?_
  · rw [← htk]
    simp only [List.toList_toArray]
    rw [List.take_set]
  · intro a s hs' hne
    have hlt := World.block_lt_of_cell? w _ hs'
    by_cases e : a.block = g
    · unfold World.cell? at hs' ⊢
      rw [e] at hs' ⊢
      rw [show w'.heap[g]? = _ from hB']
      rw [hg] at hs'
      simp only at hs' ⊢
      split at hs'
      · cases hs'
      · rename_i hsp
        rw [if_neg hsp]
        by_cases ej : a.off = j
        · rw [ej, ← Array.getElem?_toList, hcz] at hs'
          exact absurd (Option.some.inj hs').symm (hne κ2 z)
        · rw [← Array.getElem?_toList] at hs'
          simp only [List.getElem?_toArray]
          rw [List.getElem?_set_ne (by omega)]
          exact hs'
    · rw [← hs']
      exact World.cell?_of_block (hF'.keep _ hlt (by simpa using e))
theorem set_ints {l : List Value} {j : Nat} {x : Int} (h : ∀ u ∈ l, ∃ z, u = Value.int .u8 z) : ∀ u ∈ l.set j (.int .u8 x), ∃ z, u = Value.int .u8 z := by
  intro u hu
  rcases List.mem_or_eq_of_mem_set hu with h' | h'
  · exact h u h'
  · exact ⟨x, h'⟩
theorem bytes_ints (p : List Nat) : ∀ u ∈ bytes p, ∃ z, u = Value.int .u8 z := by
  intro u hu
  obtain ⟨n, _, rfl⟩ := List.mem_map.1 hu
  exact ⟨n, rfl⟩
/-- The loop over a row's bytes. -/
theorem open_nil {w : World} : CallF Try.prog 18 #[.pointer none] w fun r w' => r = .tuple #[.pointer none, .agg #[.bool false, .slice none 0 0, .slice none 0 0], .int .i64 17] ∧ Fr [] w w' := by
  refine C_store_Open_link ?_
  unfold C_store_Open
  refine alloc_n (n := 3) (by kernel_rfl) ?_
  intro b w1 l hl hb hB hF _
  refine ptr_eql und26 (if_t rfl ?_)
  refine ⟨[.bool false, .slice none 0 0, .slice none 0 0], by kernel_rfl, by kernel_rfl, ?_⟩
  refine store_all (n := 3) (vs := [.bool false, .slice none 0 0, .slice none 0 0]) hB (by kernel_rfl) hl rfl (by omega) (by simp [Value.oneCell']) ?_
  intro w2 hB2 hF2 _
  exact ldA_bk hB2 (by simp) ⟨rfl, hF.trans hF2 (fun i hi => .inr (by simp at hi; omega))⟩
theorem nil_append {w : World} {x : Value} : CallF Try.prog 19 #[.pointer none, x] w fun r w' => r = .int .i64 17 ∧ w' = w := by
  refine C_store_Store_Append_link ?_
  unfold C_store_Store_Append
  exact ptr_eql und31 (if_t rfl ⟨rfl, rfl⟩)
theorem nil_check {w : World} {x : Value} : CallF Try.prog 20 #[.pointer none, x] w fun r w' => r = .int .i64 17 ∧ w' = w := by
  refine C_store_Store_Checkpoint_link ?_
  unfold C_store_Store_Checkpoint
  exact ptr_eql und31 (if_t rfl ⟨rfl, rfl⟩)
theorem nil_sync {w : World} : CallF Try.prog 21 #[.pointer none] w fun r w' => r = .int .i64 17 ∧ w' = w := by
  refine C_store_Store_Sync_link ?_
  unfold C_store_Store_Sync
  exact ptr_eql und31 (if_t rfl ⟨rfl, rfl⟩)
theorem nil_len {w : World} : CallF Try.prog 22 #[.pointer none] w fun r w' => r = .int .i64 0 ∧ w' = w := by
  refine C_store_Store_Len_link ?_
  unfold C_store_Store_Len
  exact ptr_eql und31 (if_t rfl ⟨rfl, rfl⟩)
theorem nil_safe {w : World} : CallF Try.prog 23 #[.pointer none] w fun r w' => r = .int .i64 0 ∧ w' = w := by
  refine C_store_Store_Safe_link ?_
  unfold C_store_Store_Safe
  exact ptr_eql und31 (if_t rfl ⟨rfl, rfl⟩)
end Go.Proofs.Ytmlaconjeplhpaa

set_option linter.unusedVariables false
set_option linter.unusedSimpArgs false
set_option maxRecDepth 20000
namespace Go.Proofs.Ytmlaconjeplhpaa
open Go Go.Vc

theorem sl_cells {w w' : World} {v : Value} {n : Nat} {cs : List Value} (h : Sl w 1 v n cs) (hc : ∀ a s, w.cell? a = some s → (∀ κ z, s ≠ .int κ z) → w'.cell? a = some s) (hni : ∀ s ∈ cs, ∀ κ z, s ≠ .int κ z) : Sl w' 1 v n cs := by
  obtain ⟨A, c, rfl, hl, hn, hcc⟩ := h
  exact ⟨A, c, rfl, hl, hn, fun a ha j u hj => hc _ _ (hcc a ha j u hj) (hni u (List.mem_of_getElem? hj))⟩
theorem nil_c {w : World} {x : Value} {p F : List Nat} (hx : aBytes.rd w [x] p F) :
    CallF Try.prog 4 #[x] w fun r w' => r = .bool true ∧ Fr [] w w' := by
  obtain ⟨x', Fx, ex, hsx, hxb⟩ := of_aBytes hx
  obtain rfl := (List.cons.inj ex).1
  obtain ⟨hxs, _⟩ := sSl_sl hsx
  refine C_furlonglaw15_StoreNil_link ?_
  unfold C_furlonglaw15_StoreNil
  refine awake_c.use ?_
  rintro _ w1 ⟨rfl, hF1⟩
  refine notB (if_f rfl ?_)
  refine open_nil.use ?_
  rintro _ w2 ⟨rfl, hF2⟩
  refine ext0 (ext1 (ext2 ?_))
  refine alloc_n (n := 3) (by kernel_rfl) ?_
  intro b3 w3 l3 hl3 hb3 hB3 hF3 _
  refine store_all (n := 3) (vs := [.bool false, .slice none 0 0, .slice none 0 0]) hB3 (by kernel_rfl) hl3 rfl (by omega) (by simp [Value.oneCell']) ?_
  intro w4 hB4 hF4 _
  have hF04 : Fr [] w w4 := (hF1.t hF2).t (hF3.trans hF4 (fun i hi => .inr (by simp at hi; omega)))
  refine neq (gdT (by simp [isB]) (fad rfl) (gdT (by simp [isB]) (ldC_bk hB4 rfl rfl) (gdT (by simp [isB]) (len rfl) (gdT (by simp [isB]) (neq rfl) (pick_f (by simp) ?_)))))
  refine gdT (by simp [isB]) rfl (gdT (by simp [isB]) rfl (gT (by simp [isB]) (nil_append.use ?_)))
  rintro _ w5 ⟨rfl, e5⟩
  rw [e5]
  refine gdT (by simp [isB]) (neq rfl) (pick_f (by simp) (gdT (by simp [isB]) rfl (gT (by simp [isB]) (nil_sync.use ?_))))
  rintro _ w6 ⟨rfl, e6⟩
  rw [e6]
  refine gdT (by simp [isB]) (neq rfl) (pick_f (by simp) (gdT (by simp [isB]) rfl (gdT (by simp [isB]) rfl (gT (by simp [isB]) (nil_check.use ?_)))))
  rintro _ w7 ⟨rfl, e7⟩
  rw [e7]
  refine gdT (by simp [isB]) (neq rfl) (pick_f (by simp) (gdT (by simp [isB]) rfl (gT (by simp [isB]) (nil_len.use ?_))))
  rintro _ w8 ⟨rfl, e8⟩
  rw [e8]
  refine gdT (by simp [isB]) (neq rfl) (pick_f (by simp) (gdT (by simp [isB]) rfl (gT (by simp [isB]) (nil_safe.use ?_))))
  rintro _ w9 ⟨rfl, e9⟩
  rw [e9]
  refine gdT (by simp [isB]) (neq rfl) (pick_f (by simp) (if_f (by simp) ?_))
  refine hxs.lenV (gtr (if_p (fun _ => ⟨rfl, hF04⟩) (fun hle => ?_)))
  -- a store, a copy of the bytes
  refine (dnew_c (n := 1000) (by omega) (by omega)).use ?_
  rintro r w10 ⟨pd, bb, rfl, hd10, hF10, hpd, hbb⟩
  refine ext0 (ext1 ?_)
  refine (aw_new hd10 hF10 hpd hbb).use ?_
  rintro r w11 ⟨ps, sv, lv2, G, rfl, hsn, hls, h11⟩
  refine ext0 (ext1 (ext2 ?_))
  refine alloc_n (n := 3) (by kernel_rfl) ?_
  intro b12 w12 l12 hl12 hb12 hB12 hF12 _
  refine store_all (vs := [.bool false, sv, lv2]) hB12 und44 hl12 rfl (by omega) (found_one (s := []) hsn hls) ?_
  intro w13 hB13 hF13 _
  have h13 := h11.step (hF12.trans hF13 (fun i hi => .inr (by simp at hi; omega))) (fun i hi => .inl hi)
  have hF413 := h13.frn
  refine (twin_c (hxs.fr (hF04.t hF413) (fun i _ => by simp)) (by omega)).use ?_
  intro q w14 hN14
  have h14 := h13.step (Y2 := fp q) hN14.fr (fun i hi => .inr ⟨hN14.new i hi, hN14.own.lt i hi⟩)
  have hq4 : ∀ i ∈ fp q, w4.heap.size ≤ i := fun i hi => by have := hN14.new i hi; have := hF413.size; omega
  refine neq (gdT (by simp [isB]) rfl (gdT (by simp [isB]) rfl ?_))
  refine gT (by simp [isB]) ((aw_check h14 (by omega) hN14.own.sl hxb (by omega) (fun _ i hi => hi)).use ?_)
  rintro _ w15 ⟨rfl, h15, X15, hX15, hd15, _⟩
  have hq15 := hN14.own.fr hX15 (fun i hi hm => hd15 i hm hi)
  refine gdT (by simp [isB]) (neq rfl) (pick_f (by simp) (gdT (by simp [isB]) rfl (gdT (by simp [isB]) rfl ?_)))
  refine gT (by simp [isB]) ((aw_append h15 (by omega) hq15.sl hxb (by omega) (by simp [took]; omega)).use ?_)
  rintro _ w16 ⟨rfl, h16, X16, hX16, hd16, _⟩
  have hq16 := hq15.fr hX16 (fun i hi hm => hd16 i hm hi)
  refine gdT (by simp [isB]) (neq rfl) (pick_f (by simp) (if_f (by simp) (hq16.sl.lenV ?_)))
  refine ⟨fun m t w' => ∃ j vs, j + m = p.length ∧ t = .int .i64 (j : Nat) ∧ Own w' 5 1 q p.length vs ∧ (∀ u ∈ vs, ∃ z, u = Value.int .u8 z) ∧ Aw w4 w' ps pd 0 true p ([] ++ [p]) 3 (fp q), p.length, ⟨0, _, by omega, rfl, hq16, bytes_ints p, h16⟩, ?_⟩
  rintro m t w17 ⟨j, vs, hj, rfl, hq17, hi17, h17⟩
  refine lss (if_p (fun hlt => ?_) (fun _ => ?_))
  · have hvl : vs.length = p.length := by have := hq17.1; omega
    have hjl : j < vs.length := by omega
    obtain ⟨z, hz⟩ := hi17 vs[j] (List.getElem_mem hjl)
    have hz' : vs[j]? = some (.int .u8 z) := by rw [List.getElem?_eq_getElem hjl, hz]
    refine ix1 hq17.sl (by omega) hz' ⟨rfl, ?_⟩
    refine own_set hq17 (by omega) hz' (by kernel_rfl) rfl ?_
    intro w18 hq18 hF18 _
    refine add64 (by omega) ⟨m - 1, by omega, j + 1, _, by omega, by congr 1, hq18, set_ints hi17, h17.touch hF18 (fun i hi => hi) hq4⟩
  -- opened twice
  refine (aw_open h17 (by omega)).use ?_
  rintro r w18 ⟨psa, sva, lva, Ga, rfl, hsa, hla, ma1, ma2, ma3, h18, _⟩
  refine ext0 (ext1 (ext2 ?_))
  refine alloc_n (n := 3) (by kernel_rfl) ?_
  intro ba w19 l19 hl19 hba hB19 hF19 hs19
  refine store_all (vs := [.bool true, sva, lva]) hB19 und44 hl19 rfl (by omega) (found_one (s := []) hsa hla) ?_
  intro w20 hB20 hF20 hs20
  have f20 : Fr [] w18 w20 := hF19.trans hF20 (fun i hi => .inr (by simp at hi; omega))
  have hsa20 := hsa.fr f20 (fun i _ => by simp)
  have hla20 := (sOwn.list (by decide)).fr hla f20 (fun i _ => by simp)
  have lta := hsa.lt
  have ltG := (sOwn.list (by decide)).lt hla
  have h20 := h18.step (Y2 := ba :: (fp sva ++ Ga)) f20 (fun i hi => by
    rcases List.mem_cons.1 hi with e | e
    · exact .inr (by omega)
    · exact .inl (List.mem_append.2 (.inl e)))
  refine (aw_open h20 (by omega)).use ?_
  rintro r w21 ⟨psb, svb, lvb, Gb, rfl, hsb, hlb, mb1, mb2, mb3, h21, X21, hX21, hd21, _⟩
  refine ext0 (ext1 (ext2 ?_))
  refine alloc_n (n := 3) (by kernel_rfl) ?_
  intro bb2 w22 l22 hl22 hbb2 hB22 hF22 _
  refine store_all (vs := [.bool true, svb, lvb]) hB22 und44 hl22 rfl (by omega) (found_one (s := []) hsb hlb) ?_
  intro w23 hB23 hF23 _
  have f23 : Fr [] w21 w23 := hF22.trans hF23 (fun i hi => .inr (by simp at hi; omega))
  have s21 := hX21.size
  have hBa23 := (hB20.fr hX21 (fun hm => hd21 _ hm (by simp))).fr f23 (by simp)
  have hsa23 := (hsa20.fr hX21 (fun i hi hm => hd21 i hm (by simp [hi]))).fr f23 (fun i _ => by simp)
  have hla23 := (sOwn.list (by decide)).fr ((sOwn.list (by decide)).fr hla20 hX21 (fun i hi hm => hd21 i hm (by simp [hi]))) f23 (fun i _ => by simp)
  have hsb23 := hsb.fr f23 (fun i _ => by simp)
  have hlb23 := (sOwn.list (by decide)).fr hlb f23 (fun i _ => by simp)
  have h23 : Fr [] w w23 := (hF04.t h21.frn).t f23
  have gt4 : ∀ i ∈ fp sva ++ Ga, w4.heap.size ≤ i ∧ i < ba ∧ w.heap.size ≤ i := fun i hi => by
    have a1 := h17.frn.size
    have a2 := hF04.size
    rcases List.mem_append.1 hi with e | e
    · have := ma1 i e; have := lta i e; omega
    · have := ma2 i e; have := ltG i e; omega
  have hbb2n : w20.heap.size ≤ bb2 := by omega
  have hban : ba < w20.heap.size := hB20.lt
  clear h11 h13 h14 h15 h16 h17 h18 h20 h21 hX15 hX16 hX21 hd15 hd16
  obtain ⟨cla, GA, hcapa, hsla, hrowa, hGA, hGe⟩ := list_open hla23
  obtain ⟨clb, GB, hcapb, hslb, hrowb, hGB, _⟩ := list_open hlb23
  refine fad (ldC_bk hBa23 rfl (hsla.lenV (neq ?_)))
  refine gdT (by simp [isB]) (fad rfl) (gdT (by simp [isB]) (ldC_bk hB23 rfl rfl) (gdT (by simp [isB]) (hslb.lenV rfl) (gdT (by simp [isB]) (neq rfl) (pick_f (by simp) (if_f (by simp) ?_)))))
  refine fad (ldC_bk hBa23 rfl (hsa23.sl.lenV ?_))
  have hlvG : ∀ i ∈ fp lva, i ∈ Ga := fun i hi => by rw [hGe, if_neg (by simp)]; exact List.mem_append.2 (.inl hi)
  obtain ⟨Fa, ⟨v1, e1, o1, hFa⟩, hFaG⟩ := rows_get sOwn hrowa 0 (by simp)
  have hea : cla[0]? = some v1 := by
    have hs : sOwn.size = 1 := rfl
    rw [hs] at e1
    have := congrArg (fun l : List Value => l[0]?) e1
    simpa [List.getElem?_take, List.getElem?_drop] using this
  have hv1G : ∀ i ∈ fp v1, i ∈ Ga := fun i hi => hGA i (hFaG i (by rw [hFa]; exact hi))
  obtain ⟨Fb, ⟨v2, e2, o2, hFb⟩, hFbG⟩ := rows_get sOwn hrowb 0 (by simp)
  have heb : clb[0]? = some v2 := by
    have hs : sOwn.size = 1 := rfl
    rw [hs] at e2
    have := congrArg (fun l : List Value => l[0]?) e2
    simpa [List.getElem?_take, List.getElem?_drop] using this
  have hlp : ([] ++ [p] : List (List Nat))[0] = p := rfl
  have hll1 : ([] ++ [p] : List (List Nat)).length = 1 := rfl
  refine ⟨fun m t w' => ∃ j vs, j + m = p.length ∧ t = .int .i64 (j : Nat) ∧ Own w' 5 1 sva p.length vs ∧ (∀ u ∈ vs, ∃ z, u = Value.int .u8 z) ∧ Fr (fp sva) w23 w', p.length, ⟨0, _, by omega, rfl, hsa23, bytes_ints p, Fr.refl _ _⟩, ?_⟩
  rintro m t w24 ⟨j, vs, hj, rfl, hs24, hi24, hF24⟩
  have hBa24 := hBa23.fr hF24 (fun hm => by have := (gt4 ba (by simp [hm])).2.1; omega)
  refine lss (if_p (fun hlt => ?_) (fun _ => ?_))
  · have hvl : vs.length = p.length := by have := hs24.1; omega
    have hjl : j < vs.length := by omega
    obtain ⟨z, hz⟩ := hi24 vs[j] (List.getElem_mem hjl)
    have hz' : vs[j]? = some (.int .u8 z) := by rw [List.getElem?_eq_getElem hjl, hz]
    refine fad (ldC_bk hBa24 rfl (ix1 hs24.sl (by omega) hz' ⟨rfl, ?_⟩))
    refine own_set hs24 (by omega) hz' (by kernel_rfl) rfl ?_
    intro w25 hs25 hF25 _
    exact add64 (by omega) ⟨m - 1, by omega, j + 1, _, by omega, by congr 1, hs25, set_ints hi24, hF24.t hF25⟩
  have hsla24 := hsla.fr hF24 (fun i hi hm => ma3 i (hlvG i hi) hm)
  have o124 : Own w24 5 1 v1 p.length (bytes p) := o1.fr hF24 (fun i hi hm => ma3 i (hv1G i hi) hm)
  refine fad (ldC_bk hBa24 rfl (ix1 (i := 0) hsla24 (by rw [hll1]; omega) hea (o124.sl.lenV ?_)))
  refine ⟨fun m t w' => ∃ j vs, j + m = p.length ∧ t = .int .i64 (j : Nat) ∧ Own w' 5 1 v1 p.length vs ∧ (∀ u ∈ vs, ∃ z, u = Value.int .u8 z) ∧ Fr (fp v1) w24 w' ∧ (∀ a s, w24.cell? a = some s → (∀ κ z, s ≠ .int κ z) → w'.cell? a = some s), p.length, ⟨0, _, by omega, rfl, o124, bytes_ints p, Fr.refl _ _, fun a s h _ => h⟩, ?_⟩
  rintro m t w25 ⟨j, vs, hj, rfl, hs25, hi25, hF25, hc25⟩
  have hBa25 := hBa24.fr hF25 (fun hm => by have := (gt4 ba (by simp [hv1G _ hm])).2.1; omega)
  have hcl : ∀ s ∈ cla, ∀ κ z, s ≠ .int κ z := by
    intro s hs κ z e
    have hl1 : cla.length = 1 := by obtain ⟨_, _, _, hl, _⟩ := hsla; have h0 : sOwn.size = 1 := rfl; rw [h0] at hl; simpa using hl
    obtain ⟨i, hi, rfl⟩ := List.mem_iff_getElem.1 hs
    obtain rfl : i = 0 := by omega
    rw [List.getElem?_eq_getElem hi] at hea
    have := Option.some.inj hea
    obtain ⟨A, c, hv⟩ := o1.len
    rw [this, hv] at e
    cases e
  refine lss (if_p (fun hlt => ?_) (fun _ => ?_))
  · have hvl : vs.length = p.length := by have := hs25.1; omega
    have hjl : j < vs.length := by omega
    obtain ⟨z, hz⟩ := hi25 vs[j] (List.getElem_mem hjl)
    have hz' : vs[j]? = some (.int .u8 z) := by rw [List.getElem?_eq_getElem hjl, hz]
    refine fad (ldC_bk hBa25 rfl (ix1 (i := 0) (sl_cells hsla24 hc25 hcl) (by rw [hll1]; omega) hea (ix1 hs25.sl (by omega) hz' ⟨rfl, ?_⟩)))
    refine own_set hs25 (by omega) hz' (by kernel_rfl) rfl ?_
    intro w26 hs26 hF26 hc26
    exact add64 (by omega) ⟨m - 1, by omega, j + 1, _, by omega, by congr 1, hs26, set_ints hi25, hF25.t hF26, fun a s h hn => hc26 a s (hc25 a s h hn) hn⟩
  have hFe : Fr (fp sva ++ Ga) w23 w25 := (hF24.mono (fun i hi => .inl (by simp [hi]))).trans hF25 (fun i hi => .inl (by simp [hv1G i hi]))
  have hBb := hB23.fr hFe (fun hm => by have := (gt4 _ hm).2.1; omega)
  have hsbE := hsb23.fr hFe (fun i hi hm => by have := (gt4 _ hm).2.1; have := mb1 i hi; omega)
  have hlbE := hslb.fr1 hFe (fun _ i hi hm => by
    have := (gt4 _ hm).2.1
    have h2 : i ∈ Gb := by
      have hh := hlb23
      obtain ⟨v, cc, gg, ee, _, _, _, hee⟩ := hh
      obtain rfl := (List.cons.inj ee).1
      rw [hee, if_neg (by simp)]
      exact List.mem_append.2 (.inl hi)
    have := mb2 i h2
    omega)
  have o2E : Own w25 5 1 v2 p.length (bytes p) := o2.fr hFe (fun i hi hm => by
    have := (gt4 _ hm).2.1
    have := mb2 i (hGB i (hFbG i (by rw [hFb]; exact hi)))
    omega)
  have hEnd : Fr [] w w25 := h23.trans hFe (fun i hi => .inr (gt4 i hi).2.2)
  have hxE := hxs.fr hEnd (fun i _ => by simp)
  refine fad (ldC_bk hBb rfl ((bytes_c hsbE.sl hxb hxE hxb).use ?_))
  rintro _ w26 ⟨rfl, e26⟩
  rw [e26]
  obtain ⟨a1, ha1, ha2⟩ := ix1_ex (κ := .i64) (i := 0) hlbE (by rw [hll1]; omega) heb
  refine gdT (by simp [isB]) (fad rfl) (gdT (by simp [isB]) (ldC_bk hBb rfl rfl) (gdT (by simp [isB]) ha1 (gdT (by simp [isB]) ha2 (gdT (by simp [isB]) rfl ?_))))
  refine gT (by simp [isB]) ((bytes_c o2E.sl hxb hxE hxb).use ?_)
  rintro _ w27 ⟨rfl, e27⟩
  rw [e27]
  exact pick_t (by simp) ⟨by simp, hEnd⟩
end Go.Proofs.Ytmlaconjeplhpaa

set_option linter.unusedVariables false
set_option linter.unusedSimpArgs false
set_option maxRecDepth 20000
namespace Go.Proofs.Ytmlaconjeplhpaa
open Go Go.Vc
open St (Dsk All64 Blk pad four put4 halfN base hb walk eldest rootF openF putF rootL SInv encAll encRec mkB allF foundOf recs)

theorem write_len (D : Dsk) (n : Nat) (b : Blk) : (D.write n b).B.length = D.B.length := by unfold Dsk.write; split <;> simp
theorem putF_small {gen life bs : Nat} : ∀ (n : Nat) (D : Dsk) (at' : Nat) (t : List Nat), t.length < n → ∀ {D' at2 t2}, putF gen life bs n D at' t = (D', at2, t2) → t2.length < 55 ∧ at2 ≤ at' + t.length ∧ (∀ c ∈ t2, c ∈ t) ∧ D'.B.length = D.B.length
  | 0, D, at', t, h, D', at2, t2, e => by omega
  | n + 1, D, at', t, h, D', at2, t2, e => by
    rw [putF_succ] at e
    split at e
    · obtain ⟨rfl, rfl, rfl⟩ : _ ∧ _ ∧ _ := by simpa using e
      exact ⟨by assumption, by omega, fun c hc => hc, write_len _ _ _⟩
    · split at e
      · obtain ⟨rfl, rfl, rfl⟩ : _ ∧ _ ∧ _ := by simpa using e
        exact ⟨by simp, by omega, by simp, write_len _ _ _⟩
      · have hl : (t.drop 55).length = t.length - 55 := List.length_drop
        obtain ⟨a, b, c, d⟩ := putF_small n _ _ _ (by omega) e
        exact ⟨a, by omega, fun x hx => List.mem_of_mem_drop (c x hx), d.trans (write_len _ _ _)⟩
theorem enc_count (l : List (List Nat)) : l.length ≤ (encAll l).length := by
  rw [St.encAll_length]
  induction l with
  | nil => simp
  | cons p l ih => simp only [List.map_cons, List.sum_cons, List.length_cons]; omega
theorem found_small {gen life sz : Nat} {wh : Bool} {all : List Nat} (hs : sz ≤ all.length) (ha : all.length ≤ 1802240) (hb : ∀ x ∈ all, x < 256) :
    (foundOf gen life wh sz all).at' ≤ 100000 ∧ (foundOf gen life wh sz all).tail.length < 55 ∧ (∀ c ∈ (foundOf gen life wh sz all).tail, c < 256) ∧ (foundOf gen life wh sz all).list.length ≤ 2000000 := by
  obtain ⟨_, j, hj, _⟩ := St.recs_enc (l := all.drop sz) (fun x hx => hb x (List.mem_of_mem_drop hx))
  have h1 := congrArg List.length hj
  rw [List.length_append, List.length_drop] at h1
  have h2 := enc_count (recs (all.drop sz))
  obtain ⟨e, he⟩ : ∃ e, sz + (encAll (recs (all.drop sz))).length = e := ⟨_, rfl⟩
  unfold foundOf
  simp only [he]
  refine ⟨by omega, by simp only [List.length_drop, List.length_take]; omega, fun c hc => hb c (List.mem_of_mem_take (List.mem_of_mem_drop hc)), by omega⟩
theorem openF_small {B : List Blk} (hB : All64 B) (hl : B.length ≤ 65536) : (openF B).at' ≤ 100000 ∧ (openF B).tail.length < 55 ∧ (∀ c ∈ (openF B).tail, c < 256) ∧ (openF B).list.length ≤ 2000000 := by
  have h1 := St.walk_length (H := hb B (rootF B).1) (gen := (rootF B).1) (halfN B) 0 0
  have h2 := St.walk_lt (H := hb B (rootF B).1) (gen := (rootF B).1) (fun i => (St.hb_64 hB _ i).2) (halfN B) 0 0
  have h3 : halfN B ≤ 32767 := by unfold halfN; omega
  unfold openF
  split
  · exact found_small (Nat.zero_le _) (by simp) (by simp)
  · exact found_small (by omega) (by unfold allF; omega) h2
section
variable {w : World} {ps pd bb : Nat} {lv tv x : Value} {D : Dsk} {gen life at' count safe : Nat} {tail p : List Nat}
theorem dwrite_any (h : Dk w pd bb lv D) (z : Int) {x : Value} {bs : List Nat} (hx : Sl w 1 x bs.length (bytes bs)) (hxb : ∀ c ∈ bs, c < 256) (hL : D.L.length ≤ 1000000000) :
    CallF Try.prog 17 #[ptr pd, .int .i64 z, x] w fun r w' => ∃ lv' D', Dk w' pd bb lv' D' ∧ D'.B.length = D.B.length ∧ D'.L.length ≤ D.L.length + 1 ∧ Fr (pd :: bb :: fp lv) w w' ∧ (∀ i ∈ fp lv', i ∈ fp lv ∨ w.heap.size ≤ i) := by
  by_cases hz : z < 0
  · refine C_disk_Disk_Write_link ?_
    unfold C_disk_Disk_Write
    refine ptr_eql und26 (if_f rfl (lss ?_))
    have hf : isB (.bool (decide (z < 0))) false = false := by simp [isB]; omega
    refine gdF hf (gdF hf (gdF hf (gdF hf (gdF hf (gdF hf (gdF hf (pick_t (by simp; omega) (if_t rfl ?_))))))))
    exact ⟨lv, D, h, rfl, by omega, Fr.refl _ _, fun i hi => .inl hi⟩
  obtain ⟨n, rfl⟩ : ∃ n : Nat, z = n := ⟨z.toNat, by omega⟩
  by_cases hl : bs.length ≤ 64
  · refine (dwrite_c h n hx hl hxb hL).use ?_
    rintro _ w1 ⟨_, lv', hd, hF, hs⟩
    exact ⟨lv', _, hd, write_len _ _ _, by unfold Dsk.write; split <;> simp, hF, hs⟩
  · refine C_disk_Disk_Write_link ?_
    unfold C_disk_Disk_Write
    refine ptr_eql und26 (if_f rfl (lss ?_))
    refine gdT (by simp [isB]) rfl (gdT (by simp [isB]) rfl (gdT (by simp [isB]) (nilC rfl) (gdT (by simp [isB]) (fad rfl) (gdT (by simp [isB]) (ldC_bk h.blk rfl rfl) (gdT (by simp [isB]) (len rfl) (gdT (by simp [isB]) (geq rfl) (pick_f (by simp) ?_)))))))
    refine if_p (fun hge => ⟨lv, D, h, rfl, by omega, Fr.refl _ _, fun i hi => .inl hi⟩) (fun hlt => ?_)
    exact hx.lenV (gtr (if_p (fun _ => ⟨lv, D, h, rfl, by omega, Fr.refl _ _, fun i hi => .inl hi⟩) (fun hgt => absurd hgt (by omega))))
theorem schk_any (h : Sk w ps pd bb lv tv D gen life at' count safe tail) (hx : Sl w 1 x p.length (bytes p)) (hpb : ∀ c ∈ p, c < 256) {g2 : Nat} (hg2 : g2 = (gen + 1) % 4294967296) (hxd : 0 < p.length → ∀ i ∈ fp x, i ∉ skX ps pd bb lv tv) (hL : D.L.length ≤ 100000000) (hD : D.B.length ≤ 65536) :
    CallF Try.prog 20 #[ptr ps, x] w fun r w' =>
      (r = .int .i64 3 ∧ 524288 < p.length ∧ Fr [] w w') ∨
      (r = .int .i64 10 ∧ p.length ≤ 524288 ∧ halfN D.B * 55 < p.length ∧ Fr [] w w') ∨
      (r = .int .i64 0 ∧ p.length ≤ 524288 ∧ p.length ≤ halfN D.B * 55 ∧ ∃ D' at2 t2, putF g2 life (base (halfN D.B) g2) (p.length + 1) ⟨D.B, []⟩ 0 p = (D', at2, t2) ∧
        Wrote w ps pd bb lv tv D ⟨((Dsk.mk D'.B []).write (g2 % 2) (pad (rootL g2 p.length))).B, []⟩ g2 life at2 0 0 t2 w') := by
  have hhalf : halfN D.B ≤ 65536 := by unfold halfN; omega
  refine C_store_Store_Checkpoint_link ?_
  unfold C_store_Store_Checkpoint
  refine ptr_eql und31 (if_f rfl (hx.lenV (gtr (if_p (fun hgt => .inl ⟨rfl, by omega, Fr.refl _ _⟩) (fun hle => ?_)))))
  refine hx.lenV ?_
  refine (half_c h.dk h.blk).use ?_
  rintro _ w0 ⟨rfl, hw0⟩
  rw [hw0]
  refine mul64 (by omega) (gtr (if_p (fun hgt => .inr (.inl ⟨rfl, by omega, by omega, Fr.refl _ _⟩)) (fun hle2 => ?_)))
  refine nilC (fad (ldC_bk h.blk rfl ((dsync_c h.dk).use ?_)))
  rintro _ w1 ⟨rfl, hd1, hF1, hs1⟩
  have h1 : Sk w1 ps pd bb (.slice none 0 0) tv ⟨D.B, []⟩ gen life at' count safe tail := h.redisk hd1 (hF1.mono (fun i hi => .inl (by simp at hi; simp [hi]))) (by simp [fp_nil])
  refine nilC (fad (ldC_bk h1.blk rfl (addw ?_)))
  have eg : IntKind.u32.wrap ((gen : Int) + 1) = ((g2 : Nat) : Int) := by
    rw [IntKind.wrap_u32]; omega
  have hg : g2 < 4294967296 := by omega
  clear hg2
  rw [eg]
  refine nilC (fad (store' h1.blk (by kernel_rfl) (by simp) rfl ?_))
  intro w2 hB2 hF2 hs2
  refine nilC (fad (store' hB2 (by kernel_rfl) (by simp) rfl ?_))
  intro w3 hB3 hF3 hs3
  refine nilC (fad (store' hB3 (by kernel_rfl) (by simp) rfl ?_))
  intro w4 hB4 hF4 hs4
  refine nilC (fad (store' hB4 (by kernel_rfl) (by simp) rfl ?_))
  intro w5 hB5 hF5 hs5
  refine nilC (fad (store' hB5 (by kernel_rfl) (by simp) rfl ?_))
  intro w6 hB6 hF6 hs6
  have hF16 : Fr [ps] w1 w6 := (((hF2.t hF3).t hF4).t hF5).t hF6
  have hnps : ps ∉ fp (.slice none 0 0) := by simp [fp_nil]
  have h6 : Sk w6 ps pd bb (.slice none 0 0) (.slice none 0 0) ⟨D.B, []⟩ g2 life 0 0 0 [] :=
    ⟨hd1.fr hF16 (by simp; exact fun e => h.s1 e.symm) (by simp; exact fun e => h.s2 e.symm) (by simp [fp_nil]), by simpa using hB6, Own.nil _ _ _, h.s1, h.s2, by simp [fp_nil], by simp [fp_nil], by simp [fp_nil], by simp [fp_nil], by simp [fp_nil], hg, h.l⟩
  have hF06 : Fr [ps, pd] w w6 := (hF1.mono (fun i hi => .inl (by simp at hi; simp [hi]))).trans hF16 (fun i hi => .inl (by simp at hi; simp [hi]))
  have hF06' : Fr (skX ps pd bb lv tv) w w6 := hF06.mono (fun i hi => .inl (skX_mem.2 (by simp at hi; rcases hi with h | h <;> simp [h])))
  have hx6 : Sl w6 1 x p.length (bytes p) := hx.fr1 hF06' hxd
  refine (sput_c h6 hx6 (by simpa using hpb) (by omega) (by simp; omega) (by simp)).use ?_
  rintro _ w7 ⟨rfl, lv7, tv7, D7, at7, t7, hput, h7, hF7, hs7, hL7⟩
  simp only [List.nil_append] at hput hL7
  have sub7 : ∀ i ∈ skX ps pd bb lv7 tv7, i ∈ skX ps pd bb lv tv ∨ w.heap.size ≤ i := fun i hi => (hs7 i hi).elim (fun h0 => .inl (by rcases skX_mem.1 h0 with h | h | h | h | h <;> first | exact skX_mem.2 (by simp [h]) | simp [fp_nil] at h)) (fun h0 => .inr (by have := hF06.size; omega))
  have hF07 : Fr (skX ps pd bb lv tv) w w7 := hF06'.trans hF7 (fun i hi => .inl (by rcases skX_mem.1 hi with h | h | h | h | h <;> first | exact skX_mem.2 (by simp [h]) | simp [fp_nil] at h))
  refine nilC (fad (ldC_bk h7.blk rfl ((dsync_c h7.dk).use ?_)))
  rintro _ w8 ⟨rfl, hd8, hF8, hs8⟩
  have h8 : Sk w8 ps pd bb (.slice none 0 0) tv7 ⟨D7.B, []⟩ g2 life at7 0 0 t7 := h7.redisk hd8 (hF8.mono (fun i hi => .inl (by simp at hi; simp [hi]))) (by simp [fp_nil])
  have sub8 : ∀ i ∈ skX ps pd bb (.slice none 0 0) tv7, i ∈ skX ps pd bb lv tv ∨ w.heap.size ≤ i := fun i hi => sub7 i (by rcases skX_mem.1 hi with h | h | h | h | h <;> first | exact skX_mem.2 (by simp [h]) | simp [fp_nil] at h)
  have hF08 : Fr (skX ps pd bb lv tv) w w8 := hF07.trans hF8 (fun i hi => .inl (skX_mem.2 (by simp at hi; simp [hi])))
  refine lit' (vs := bytes St.magicN) Try.underlying24 infoB rfl rfl rfl (by omega) (fun v hv => by obtain ⟨_, _, rfl⟩ := List.mem_map.1 hv; rfl) ?_
  intro b w9 hb9 hB9 hF9 _
  refine conv_lit hB9 rfl ?_
  intro w10 hF10 hS10
  have hF810 : Fr [] w8 w10 := hF9.trans hF10 (fun i hi => .inr (by simp at hi; omega))
  have h10 := h8.fresh hF810
  refine nilC (fad (ldC_bk h10.blk rfl ?_))
  refine (putg_c (bs := St.magicN) hS10 g2 (by decide)).use ?_
  intro v11 w11 hN11
  have hN11' : Row w8 w11 v11 (St.magicN ++ put4 g2) := hN11.base hF810
  have h11 := (h8.fresh hN11'.fr).fresh (Fr.drew [] w11)
  refine ⟨fun w' => Bk w' ps 124 [ptr pd, .int .u32 (g2 : Nat), .int .u32 life, tv7, .int .i64 at7, .int .i64 0, .int .i64 0], h11.blk, ?_⟩
  refine nilC (fad (ldC_S (fun w' h => h) rfl (nilC (fad (ldC_S (fun w' h => h) rfl (rem (by omega) ?_))))))
  have e2 : (((g2 : Nat) : Int).tmod 2) = ((g2 % 2 : Nat) : Int) := rfl
  rw [e2]
  refine conv_i64 (by omega) (hx.lenV (conv_u32 (by omega) ?_))
  refine (put_c (hN11'.fresh (Fr.drew [] w11)) p.length (by simp [St.magicN, put4])).use ?_
  intro v12 w12 hN12
  have hrl : (St.magicN ++ put4 g2) ++ put4 p.length = rootL g2 p.length := rfl
  rw [hrl] at hN12
  have h12 := h8.fresh hN12.fr
  refine ⟨h12.blk, ?_⟩
  have hrlen : (rootL g2 p.length).length = 16 := rfl
  refine (dwrite_c h12.dk (g2 % 2) hN12.own.sl (by rw [hrlen]; omega) (by
    intro c hc
    rcases List.mem_append.1 hc with hc | hc
    · rcases List.mem_append.1 hc with hc | hc
      · simp [St.magicN] at hc; omega
      · exact St.put4_lt _ c hc
    · exact St.put4_lt _ c hc) (by simp)).use ?_
  rintro _ w13 ⟨_, lv13, hd13, hF13, hs13⟩
  have h13 := h12.redisk hd13 hF13 hs13
  refine ⟨h13.blk, ?_⟩
  refine nilC (fad (ldC_bk h13.blk rfl ((dsync_c h13.dk).use ?_)))
  rintro _ w14 ⟨rfl, hd14, hF14, hs14⟩
  have h14 := h13.redisk hd14 (hF14.mono (fun i hi => .inl (by simp at hi; simp [hi]))) (by simp [fp_nil])
  refine .inr (.inr ⟨rfl, by omega, by omega, D7, at7, t7, hput, .slice none 0 0, tv7, h14, ?_, sub8⟩)
  have hF012 : Fr (skX ps pd bb lv tv) w w12 := hF08.trans hN12.fr (fun i hi => by simp at hi)
  refine (hF012.trans hF13 ?_).trans hF14 (fun i hi => .inl (skX_mem.2 (by simp at hi; simp [hi])))
  intro i hi
  refine .inl (skX_mem.2 ?_)
  simp [fp_nil] at hi
  rcases hi with h | h <;> simp [h]
end
theorem up1 {a k k2 : Nat} (h : a ≤ k * 200000) (hk : k ≤ k2) : a ≤ k2 * 200000 := Nat.le_trans h (Nat.mul_le_mul_right _ hk)
theorem up2 {a k k2 : Nat} (h : a ≤ 100000 + k * 200000) (hk : k ≤ k2) : a ≤ 100000 + k2 * 200000 := Nat.le_trans h (Nat.add_le_add_left (Nat.mul_le_mul_right _ hk) _)
/-- A store that stands on some disk. -/
def An (w w' : World) (ps pd n k : Nat) : Prop := ∃ bb lv tv D gen life at' count safe tail, Fr [] w w' ∧ Sk w' ps pd bb lv tv D gen life at' count safe tail ∧ (∀ i ∈ skX ps pd bb lv tv, w.heap.size ≤ i) ∧ D.B.length = n ∧ D.L.length ≤ k * 200000 ∧ at' ≤ 100000 + k * 200000 ∧ tail.length < 55 ∧ (∀ c ∈ tail, c < 256) ∧ count ≤ 2000000 + k
section
variable {w w1 : World} {ps pd n k : Nat} {x : Value} {p F : List Nat}
theorem an_append (h : An w w1 ps pd n k) (hk : k ≤ 4) (hn : n ≤ 65536) (hx : sSl.rd w [x] p F) (hpb : ∀ c ∈ p, c < 256) :
    CallF Try.prog 19 #[ptr ps, x] w1 fun r w' => An w w' ps pd n (k + 1) := by
  obtain ⟨bb, lv, tv, D, gen, life, at', count, safe, tail, hF, hsk, hnew, hlen, hll, hat, htl, htb, hc⟩ := h
  obtain ⟨hxs, _⟩ := sSl_sl hx
  refine (sappend_c hsk (hxs.fr hF (fun i _ => by simp)) hpb htb (by omega) (by omega) (by omega) (by omega)).use ?_
  rintro r w2 (⟨rfl, hlong, hF1⟩ | ⟨rfl, hle, hfull, hF1⟩ | ⟨rfl, hle, hfit, D', at2, t2, hput, hL', lv', tv', hsk1, hF1, hsub⟩)
  · exact ⟨bb, lv, tv, D, gen, life, at', count, safe, tail, hF.t hF1, hsk.fresh hF1, hnew, hlen, up1 hll (by omega), up2 hat (by omega), htl, htb, by omega⟩
  · exact ⟨bb, lv, tv, D, gen, life, at', count, safe, tail, hF.t hF1, hsk.fresh hF1, hnew, hlen, up1 hll (by omega), up2 hat (by omega), htl, htb, by omega⟩
  · obtain ⟨a, b, c, d⟩ := putF_small _ _ _ _ (by omega) hput
    have hel : (tail ++ encRec p).length = tail.length + (4 + p.length) := by simp [encRec, put4]; omega
    have hs := hF.size
    have hs1 := hF1.size
    refine ⟨bb, lv', tv', D', gen, life, at2, count + 1, safe, t2, hF.trans hF1 (fun i hi => .inr (hnew i hi)), hsk1, fun i hi => (hsub i hi).elim (hnew i) (fun _ => by omega), d.trans hlen, by omega, by omega, a, fun x hx => ?_, by omega⟩
    exact (List.mem_append.1 (c x hx)).elim (htb x) (St.encRec_lt hpb x)
theorem an_check (h : An w w1 ps pd n k) (hk : k ≤ 3) (hn : n ≤ 65536) (hx : sSl.rd w [x] p F) (hpb : ∀ c ∈ p, c < 256) :
    CallF Try.prog 20 #[ptr ps, x] w1 fun r w' => An w w' ps pd n (k + 3) := by
  obtain ⟨bb, lv, tv, D, gen, life, at', count, safe, tail, hF, hsk, hnew, hlen, hll, hat, htl, htb, hc⟩ := h
  obtain ⟨hxs, hxl⟩ := sSl_sl hx
  refine (schk_any hsk (hxs.fr hF (fun i _ => by simp)) hpb rfl (fun h0 i hi hm => by have := hxl h0 i hi; have := hnew i hm; omega) (by omega) (by omega)).use ?_
  rintro r w2 (⟨rfl, hlong, hF1⟩ | ⟨rfl, hle, hfull, hF1⟩ | ⟨rfl, hle, hfit, D', at2, t2, hput, lv', tv', hsk1, hF1, hsub⟩)
  · exact ⟨bb, lv, tv, D, gen, life, at', count, safe, tail, hF.t hF1, hsk.fresh hF1, hnew, hlen, up1 hll (by omega), up2 hat (by omega), htl, htb, by omega⟩
  · exact ⟨bb, lv, tv, D, gen, life, at', count, safe, tail, hF.t hF1, hsk.fresh hF1, hnew, hlen, up1 hll (by omega), up2 hat (by omega), htl, htb, by omega⟩
  · obtain ⟨a, b, c, d⟩ := putF_small _ _ _ _ (by omega) hput
    have hs := hF.size
    have hs1 := hF1.size
    exact ⟨bb, lv', tv', _, _, life, at2, 0, 0, t2, hF.trans hF1 (fun i hi => .inr (hnew i hi)), hsk1, fun i hi => (hsub i hi).elim (hnew i) (fun _ => by omega), (write_len _ _ _).trans (d.trans hlen), Nat.zero_le _, by omega, a, fun x hx => hpb x (c x hx), by omega⟩
theorem an_sync (h : An w w1 ps pd n k) : CallF Try.prog 21 #[ptr ps] w1 fun r w' => An w w' ps pd n k := by
  obtain ⟨bb, lv, tv, D, gen, life, at', count, safe, tail, hF, hsk, hnew, hlen, hll, hat, htl, htb, hc⟩ := h
  refine (ssync_c hsk).use ?_
  rintro _ w2 ⟨rfl, hsk2, hF2⟩
  exact ⟨bb, .slice none 0 0, tv, _, gen, life, at', count, count, tail, hF.trans hF2 (fun i hi => .inr (hnew i (skX_mem.2 (by simp at hi; rcases hi with h | h <;> simp [h])))), hsk2, fun i hi => hnew i (skX_mem.2 (by
      rcases skX_mem.1 hi with e | e | e | e | e
      · simp [e]
      · simp [e]
      · simp [e]
      · simp [fp_nil] at e
      · simp [e])), hlen, Nat.zero_le _, hat, htl, htb, hc⟩
theorem an_reopen (h : An w w1 ps pd n k) (hn : 1 ≤ n ∧ n ≤ 65536) : CallF Try.prog 18 #[ptr pd] w1 fun r w' => An w w' ps pd n k := by
  obtain ⟨bb, lv, tv, D, gen, life, at', count, safe, tail, hF, hsk, hnew, hlen, hll, hat, htl, htb, hc⟩ := h
  refine (open_c hsk.dk (by unfold halfN; omega)).use ?_
  rintro r w2 ⟨ps2, tv2, sv2, lv2, G2, rfl, hsk2, hsn2, hls2, hF2, _⟩
  have h2 := hsk.redisk hsk2.dk (hF2.mono (fun i hi => .inl (by simp at hi; simp [hi]))) (by simp [fp_nil])
  exact ⟨bb, .slice none 0 0, tv, _, gen, life, at', count, safe, tail, hF.trans hF2 (fun i hi => .inr (hnew i (skX_mem.2 (by simp at hi; simp [hi])))), h2, fun i hi => hnew i (skX_mem.2 (by
      rcases skX_mem.1 hi with e | e | e | e | e
      · simp [e]
      · simp [e]
      · simp [e]
      · simp [fp_nil] at e
      · simp [e])), hlen, Nat.zero_le _, hat, htl, htb, hc⟩
theorem an_open {bb : Nat} {lv : Value} {D : Dsk} (hd : Dk w1 pd bb lv D) (hF : Fr [] w w1) (h1 : w.heap.size ≤ pd) (h2 : w.heap.size ≤ bb) (hlen : D.B.length = n) (hn : 1 ≤ n ∧ n ≤ 65536) :
    CallF Try.prog 18 #[ptr pd] w1 fun r w' => ∃ ps wh sv lv2 G m vs, r = .tuple #[ptr ps, .agg #[.bool wh, sv, lv2], .int .i64 0] ∧ Own w' 5 1 sv m vs ∧ (∃ l, (sOwn.list (by decide)).rd w' [lv2] l G) ∧ An w w' ps pd n 0 := by
  refine (open_c hd (by unfold halfN; omega)).use ?_
  rintro r w2 ⟨ps2, tv2, sv2, lv2, G2, rfl, hsk2, hsn2, hls2, hF2, n1, n2, _⟩
  obtain ⟨a, b, c, d⟩ := openF_small hd.all (by omega)
  have hs := hF.size
  refine ⟨ps2, _, sv2, lv2, G2, _, _, rfl, hsn2, ⟨_, hls2⟩, bb, .slice none 0 0, tv2, _, _, _, _, _, _, _, hF.trans hF2 (fun i hi => .inr (by simp at hi; omega)), hsk2, ?_, hlen, Nat.zero_le _, by omega, b, c, by omega⟩
  intro i hm
  rcases skX_mem.1 hm with e | e | e | e | e
  · omega
  · omega
  · omega
  · simp [fp_nil] at e
  · have := n2 i e; omega
theorem An.frn (h : An w w1 ps pd n k) : Fr [] w w1 := by obtain ⟨bb, lv, tv, D, gen, life, at', count, safe, tail, hF, _⟩ := h; exact hF
theorem An.fresh (h : An w w1 ps pd n k) {w2 : World} (f : Fr [] w1 w2) : An w w2 ps pd n k := by
  obtain ⟨bb, lv, tv, D, gen, life, at', count, safe, tail, hF, hsk, hnew, hlen, hll, hat, htl, htb, hc⟩ := h
  exact ⟨bb, lv, tv, D, gen, life, at', count, safe, tail, hF.t f, hsk.fresh f, hnew, hlen, hll, hat, htl, htb, hc⟩
theorem an_len (h : An w w1 ps pd n k) : CallF Try.prog 22 #[ptr ps] w1 fun r w' => (∃ c : Nat, r = .int .i64 c) ∧ w' = w1 := by
  obtain ⟨bb, lv, tv, D, gen, life, at', count, safe, tail, hF, hsk, _⟩ := h
  refine (slen_c hsk).use ?_
  rintro _ w2 ⟨rfl, rfl⟩
  exact ⟨⟨_, rfl⟩, rfl⟩
theorem an_safe (h : An w w1 ps pd n k) : CallF Try.prog 23 #[ptr ps] w1 fun r w' => (∃ c : Nat, r = .int .i64 c) ∧ w' = w1 := by
  obtain ⟨bb, lv, tv, D, gen, life, at', count, safe, tail, hF, hsk, _⟩ := h
  refine (ssafe_c hsk).use ?_
  rintro _ w2 ⟨rfl, rfl⟩
  exact ⟨⟨_, rfl⟩, rfl⟩
end
theorem any_c {w : World} {n : Int} {y z x : Value} {wh : List Int} {what : List (List Nat)} {p F F1 F2 : List Nat} (hy : aInts.rd w [y] wh F) (hz : aLists.rd w [z] what F1) (hx : aBytes.rd w [x] p F2) (hw : what.length ≤ 1000000000) :
    CallF Try.prog 3 #[.int .i64 n, y, z, x] w fun r w' => r = .bool true ∧ Fr [] w w' := by
  refine C_furlonglaw15_StoreAny_link ?_
  unfold C_furlonglaw15_StoreAny
  refine awake_c.use ?_
  rintro _ w1 ⟨rfl, hF1⟩
  refine notB (if_f rfl ?_)
  obtain ⟨cl, Gl, hcapl, hsll, hrows, _⟩ := list_open (aLists.fr hz hF1 (fun i _ => by simp))
  obtain ⟨ck, Gk, hcapk, hslk, hrowk, _⟩ := list_open (aInts.fr hy hF1 (fun i _ => by simp))
  obtain ⟨rfl, rfl, _⟩ := rows_ints.1 hrowk
  obtain ⟨x', Fx, ex, hsx, hxb⟩ := of_aBytes (aBytes.fr hx hF1 (fun i _ => by simp))
  obtain rfl := (List.cons.inj ex).1
  obtain ⟨hxs, _⟩ := sSl_sl hsx
  refine max2 (min2 (add64 (by constructor <;> (repeat' split) <;> omega) ?_))
  obtain ⟨nn, hnn, hn1⟩ : ∃ nn : Nat, (1 : Int) + (if (600 : Int) < (if (0 : Int) > n then 0 else n) then 600 else (if (0 : Int) > n then 0 else n)) = (nn : Int) ∧ 1 ≤ nn ∧ nn ≤ 601 := by
    refine ⟨((1 : Int) + (if (600 : Int) < (if (0 : Int) > n then 0 else n) then 600 else (if (0 : Int) > n then 0 else n))).toNat, ?_, ?_⟩
    all_goals (repeat' split) <;> omega
  rw [hnn]
  refine (dnew_c (n := nn) (by omega) (by omega)).use ?_
  rintro r w2 ⟨pd, bb, rfl, hd2, hF2, hpd, hbb⟩
  refine ext0 (ext1 ?_)
  refine neq (gdT (by simp [isB]) rfl (gdT (by simp [isB]) (hxs.lenV rfl) (gdT (by simp [isB]) (gtr rfl) (pick_f (by simp) (if_p (fun _ => eql ⟨rfl, hF1.t hF2⟩) (fun hpl => ?_))))))
  refine hsll.lenV ?_
  refine ⟨fun m t w' => ∃ j : Nat, j + m = what.length ∧ t = .int .i64 j ∧ Fr [] w1 w' ∧ ∃ lv D, Dk w' pd bb lv D ∧ D.B.length = nn ∧ D.L.length ≤ min j 300 ∧ (∀ i ∈ fp lv, w1.heap.size ≤ i), what.length, ⟨0, by omega, rfl, hF2, _, _, hd2, List.length_replicate, Nat.zero_le _, by simp [fp_nil]⟩, ?_⟩
  rintro m t w3 ⟨j, hj, rfl, hF3, lv, D, hd3, hDl, hLl, hlv⟩
  refine lss (if_p (fun hlt => ?_) (fun _ => ?_))
  · have hjl : j < what.length := by omega
    obtain ⟨Gj, hrd, _⟩ := rows_get aBytes hrows j hjl
    obtain ⟨pv, Fp, hcs, hpv, hpb⟩ := of_aBytes hrd
    have he : cl[j]? = some pv := by
      have hs : aBytes.size = 1 := rfl
      rw [hs, Nat.mul_one] at hcs
      have := congrArg (fun l : List Value => l[0]?) hcs
      simpa [List.getElem?_take, List.getElem?_drop] using this
    obtain ⟨hps, _⟩ := sSl_sl hpv
    refine ix1 (hsll.fr hF3 (fun i _ => by simp)) hjl he (hslk.lenV (lss ?_))
    have hJ : ∀ b : Bool, (b = true → j < wh.length ∧ j < 300) → ∃ J_31 : World → Prop,
      (∀ w_32, J_31 w_32 → (
       Bin Try.prog (At w_32) .add 3 false true (.int .i64 j) (.int .i64 1) fun t57_33 =>
       ∃ m_34, m_34 < m ∧ ∃ j : Nat, j + m_34 = what.length ∧ t57_33 = .int .i64 j ∧ Fr [] w1 w_32 ∧ ∃ lv D, Dk w_32 pd bb lv D ∧ D.B.length = nn ∧ D.L.length ≤ min j 300 ∧ (∀ i ∈ fp lv, w1.heap.size ≤ i))) ∧
      If (.bool b) (
       IAdS 1 y (.int .i64 j) fun t53_35 =>
       LdC (At w3) t53_35 fun t54_36 =>
       CallF Try.prog 17 #[ptr pd, t54_36, pv] w3 fun t56_37 w_38 =>
       J_31 w_38) (
       J_31 w3) := by
      intro b hb
      refine ⟨fun w' => Fr [] w1 w' ∧ ∃ lv D, Dk w' pd bb lv D ∧ D.B.length = nn ∧ D.L.length ≤ min (j + 1) 300 ∧ (∀ i ∈ fp lv, w1.heap.size ≤ i), ?_, if_b (fun hb1 => ?_) (fun _ => ⟨hF3, lv, D, hd3, hDl, by omega, hlv⟩)⟩
      · rintro w4 ⟨hF4, rest⟩
        exact add64 (by omega) ⟨m - 1, by omega, j + 1, by omega, by congr 1, hF4, rest⟩
      · obtain ⟨hkl, h300⟩ := hb hb1
        have hek : (wh.map (Value.int .i64))[j]? = some (.int .i64 wh[j]) := by
          rw [List.getElem?_map, List.getElem?_eq_getElem hkl]; rfl
        refine ix1 (hslk.fr hF3 (fun i _ => by simp)) hkl hek ?_
        refine (dwrite_any hd3 wh[j] (hps.fr hF3 (fun i _ => by simp)) hpb (by omega)).use ?_
        rintro _ w4 ⟨lv', D', hd4, hl4, hL4, hF4, hs4⟩
        have hs := hF3.size
        refine ⟨hF3.trans hF4 (fun i hi => .inr ?_), lv', D', hd4, hl4.trans hDl, by omega, fun i hi => (hs4 i hi).elim (hlv i) (fun _ => by omega)⟩
        simp only [List.mem_cons] at hi
        rcases hi with e | e | e
        · omega
        · omega
        · exact hlv i e
    by_cases hk : j < wh.length
    · refine gdT (by simp [isB]; omega) rfl (gdT (by simp [isB]; omega) (lss rfl) (pick_t (by simp; omega) (hJ _ (fun h => ⟨hk, by have := of_decide_eq_true h; omega⟩))))
    · refine gdF (by simp [isB]; omega) (gdF (by simp [isB]; omega) (pick_f (by simp; omega) (hJ false (fun h => by cases h))))
  refine (an_open hd3 hF3 hpd hbb hDl (by omega)).use ?_
  rintro r w4 ⟨ps, whh, sv, lv2, G, mm, vs, rfl, hsn, ⟨ll, hls⟩, h4⟩
  refine ext0 (ext1 (ext2 ?_))
  refine alloc_n (n := 3) (by kernel_rfl) ?_
  intro b5 w5 l5 hl5 hb5 hB5 hF5 _
  refine store_all (vs := [.bool whh, sv, lv2]) hB5 und44 hl5 rfl (by omega) (found_one (s := []) hsn hls) ?_
  intro w6 hB6 hF6 _
  have h6 := h4.fresh (hF5.trans hF6 (fun i hi => .inr (by simp at hi; omega)))
  refine neq (gdT (by simp [isB]) rfl (gdT (by simp [isB]) (ptr_eql und31 rfl) (pick_f (by simp) (if_f (by simp) ?_))))
  refine (an_append h6 (by omega) (by omega) hsx hxb).use ?_
  intro _ w7 h7
  refine (an_check h7 (by omega) (by omega) hsx hxb).use ?_
  intro _ w8 h8
  refine (an_append h8 (by omega) (by omega) hsx hxb).use ?_
  intro _ w9 h9
  refine (an_sync h9).use ?_
  intro _ w10 h10
  refine (an_reopen h10 (by omega)).use ?_
  intro _ w11 h11
  refine (an_len h11).use ?_
  rintro _ w12 ⟨⟨c, rfl⟩, e12⟩
  rw [e12]
  refine geq (gdT (by simp [isB]; try omega) rfl (gT (by simp [isB]; try omega) ((an_safe h11).use ?_)))
  rintro _ w13 ⟨⟨c2, rfl⟩, e13⟩
  rw [e13]
  refine gdT (by simp [isB]; try omega) (geq rfl) (pick_t (by simp; try omega) ⟨by simp; try omega, hF1.t h11.frn⟩)
end Go.Proofs.Ytmlaconjeplhpaa
