/- The law StoreStale, for arguments that stand in memory. -/
import Derived.Test.YtmlaconjeplhpaaStoreQ
set_option linter.unusedVariables false
set_option linter.unusedSimpArgs false
set_option maxRecDepth 20000
namespace Go.Proofs.Ytmlaconjeplhpaa
open Go Go.Vc

theorem gdC {g : Bool} {A : (Value → World → Prop) → Prop} {w : World} {k : Value → World → Prop} (Q : Value → World → Prop) (hA : g = true → A Q) (hf : g = false → Q undef w) (hk : ∀ v w', Q v w' → k v w') : Gd g A w k := ⟨Q, hA, hf, hk⟩
theorem stale_c {w : World} {x y z : Value} {list : List (List Nat)} {keeps : List Int} {p F F1 F2 : List Nat} (hx : aLists.rd w [x] list F) (hy : aInts.rd w [y] keeps F1) (hz : aBytes.rd w [z] p F2) :
    CallF Try.prog 5 #[x, y, z] w fun r w' => r = .bool true ∧ Fr [] w w' := by
  refine C_furlonglaw15_StoreStale_link ?_
  unfold C_furlonglaw15_StoreStale
  refine awake_c.use ?_
  rintro _ w1 ⟨rfl, hF1⟩
  refine notB (if_f rfl ?_)
  obtain ⟨cl, Gl, hcapl, hsll, hrows, _⟩ := list_open (aLists.fr hx hF1 (fun i _ => by simp))
  obtain ⟨ck, Gk, hcapk, hslk, hrowk, _⟩ := list_open (aInts.fr hy hF1 (fun i _ => by simp))
  obtain ⟨rfl, rfl, _⟩ := rows_ints.1 hrowk
  obtain ⟨z', Fz, ez, hsz, hzb⟩ := of_aBytes (aBytes.fr hz hF1 (fun i _ => by simp))
  obtain rfl := (List.cons.inj ez).1
  obtain ⟨hzs, _⟩ := sSl_sl hsz
  refine hsll.lenV (gtr ?_)
  by_cases h30 : 30 < list.length
  · refine gdF (by simp [isB]; omega) (gdF (by simp [isB]; omega) (gdF (by simp [isB]; omega) (pick_t (by simp; omega) (if_t rfl ⟨rfl, hF1⟩))))
  refine gdT (by simp [isB]; omega) rfl (gdT (by simp [isB]; omega) (hzs.lenV rfl) (gdT (by simp [isB]; omega) (gtr rfl) (pick_f (by simp; omega) (if_p (fun _ => ⟨rfl, hF1⟩) (fun hp3 => ?_)))))
  refine (begin_c (n := 1200) (by omega)).use ?_
  rintro r w2 ⟨cells, rfl, hcl, hco, hF2, hks⟩
  refine ext0 (ext1 ?_)
  refine alloc_n (n := 8) (by kernel_rfl) ?_
  intro pk w3 l3 hl3 hpk hB3 hF3 _
  refine store_all (n := 8) (vs := cells) hB3 (by kernel_rfl) hl3 hcl (by omega) hco ?_
  intro w4 hB4 hF4 _
  have hk4 : Ks w1 w4 pk 1200 1 := hks pk w4 (hF3.trans hF4 (fun i hi => .inr (by simp at hi; omega))) (by omega) hB4
  refine notB (if_f rfl (hsll.lenV ?_))
  refine ⟨fun m _ t w' => ∃ j : Nat, j + m = list.length ∧ t = .int .i64 j ∧ Ks w1 w' pk 1200 (1 + 4 * j), list.length, ⟨0, by omega, rfl, hk4⟩, ?_⟩
  rintro m _ _ w5 ⟨j, hj, rfl, h5⟩
  refine lss (if_p (fun hlt => ?_) (fun hge => ?_))
  · have hjl : j < list.length := by omega
    obtain ⟨Gj, hrd, _⟩ := rows_get aBytes hrows j hjl
    obtain ⟨pv, Fp, hcs, hpv, hpb⟩ := of_aBytes hrd
    have he : cl[j]? = some pv := by
      have hs : aBytes.size = 1 := rfl
      rw [hs, Nat.mul_one] at hcs
      have := congrArg (fun l : List Value => l[0]?) hcs
      simpa [List.getElem?_take, List.getElem?_drop] using this
    obtain ⟨hps, _⟩ := sSl_sl hpv
    refine ix1 (hsll.fr h5.frn (fun i _ => by simp)) hjl he (hps.lenV (gtr (if_p (fun _ => ⟨rfl, hF1.t h5.frn⟩) (fun h2000 => ?_))))
    refine hslk.lenV (lss ?_)
    refine ⟨fun t w' => (∃ kp : Nat, t = .int .i64 kp) ∧ Ks w1 w' pk 1200 (1 + 4 * j), ?_, if_p (fun hk => ?_) (fun hk => ⟨⟨0, rfl⟩, h5⟩)⟩
    · rintro _ w6 ⟨⟨kp, rfl⟩, h6⟩
      refine (append_c h6 (by omega) hpv hpb (by omega)).use ?_
      rintro _ w7 ⟨rfl, h7⟩
      refine notB (gdT (by simp [isB]) rfl (gdT (by simp [isB]) (rem (by omega) rfl) (gdT (by simp [isB]) (eql rfl) (gdT (by simp [isB]) rfl ?_))))
      obtain ⟨c3, hc3⟩ : ∃ c, decide (((j : Int).tmod 3) = 0) = c := ⟨_, rfl⟩
      rw [hc3]
      refine gdB z (fun _ => rfl) ?_
      refine gdC (fun v w' => v = (bif isB (.bool c3) true then .bool true else undef) ∧ Ks w1 w' pk 1200 (3 + 4 * j)) ?_ ?_ ?_
      · intro hg
        rw [hg]
        refine (append_c h7 (by omega) hsz hzb (by omega)).use ?_
        rintro _ w8 ⟨rfl, h8⟩
        exact ⟨rfl, h8.up (by omega) (by omega)⟩
      · intro hg
        rw [hg]
        exact ⟨rfl, h7.up (by omega) (by omega)⟩
      rintro _ w8 ⟨rfl, h8⟩
      refine gdB (.bool false) (fun hg => by rw [hg]; exact notB rfl) ?_
      refine gdT (v := .bool false) (by simp [isB]) (by cases c3 <;> simp [Pick, isB]) (pick_f (by simp) ?_)
      refine gdT (by simp [isB]) rfl (gT (by simp [isB]) ((crash_c kp h8 (by omega)).use ?_))
      rintro _ w9 ⟨rfl, h9⟩
      refine gdT (by simp [isB]) (notB rfl) (pick_f (by simp) ?_)
      refine gdT (by simp [isB]) rfl (gdT (by simp [isB]) (rem (by omega) rfl) (gdT (by simp [isB]) (eql rfl) (gdT (by simp [isB]) rfl ?_)))
      obtain ⟨c4, hc4⟩ : ∃ c, decide (((j : Int).tmod 4) = 3) = c := ⟨_, rfl⟩
      rw [hc4]
      refine gdB pv (fun _ => rfl) ?_
      refine gdC (fun v w' => v = (bif isB (.bool c4) true then .bool true else undef) ∧ Ks w1 w' pk 1200 (5 + 4 * j)) ?_ ?_ ?_
      · intro hg
        rw [hg]
        refine (checkpoint_c h9 (by omega) hpv hpb (by omega)).use ?_
        rintro _ w10 ⟨rfl, h10⟩
        exact ⟨rfl, h10.up (by omega) (by omega)⟩
      · intro hg
        rw [hg]
        exact ⟨rfl, h9.up (by omega) (by omega)⟩
      rintro _ w10 ⟨rfl, h10⟩
      refine gdB (.bool false) (fun hg => by rw [hg]; exact notB rfl) ?_
      refine gdT (v := .bool false) (by simp [isB]) (by cases c4 <;> simp [Pick, isB]) (pick_f (by simp) ?_)
      refine if_f rfl (add64 (by omega) ⟨m - 1, by omega, j + 1, by omega, by congr 1, h10.up (by omega) (by omega)⟩)
    · have hkl : j < keeps.length := by omega
      have hek : (keeps.map (Value.int .i64))[j]? = some (.int .i64 keeps[j]) := by
        rw [List.getElem?_map, List.getElem?_eq_getElem hkl]; rfl
      refine ix1 (hslk.fr h5.frn (fun i _ => by simp)) hkl hek (max2 (min2 ⟨?_, h5⟩))
      refine ⟨Int.toNat _, congrArg _ (Int.toNat_of_nonneg ?_).symm⟩
      (repeat' split) <;> omega
  · refine (crash_c 0 h5 (by omega)).use ?_
    rintro _ w6 ⟨rfl, h6⟩
    exact ⟨rfl, hF1.t h6.frn⟩
end Go.Proofs.Ytmlaconjeplhpaa
