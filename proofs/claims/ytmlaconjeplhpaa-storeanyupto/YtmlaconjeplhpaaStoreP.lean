/- begin; the laws StoreHolds and StoreStale. -/
import Derived.Test.YtmlaconjeplhpaaStoreO
set_option linter.unusedVariables false
set_option linter.unusedSimpArgs false
set_option maxRecDepth 20000
namespace Go.Proofs.Ytmlaconjeplhpaa
open Go Go.Vc
open St (Dsk All64 Blk pad four put4 halfN base hb walk eldest rootF openF putF rootL SInv encAll encRec)

theorem begin_c {w : World} {n : Nat} (hn : 80 ≤ n ∧ n ≤ 4096) : CallF Try.prog 26 #[.int .i64 n] w fun r w' => ∃ cells, r = .tuple #[.agg (List.toArray cells), .bool true] ∧ cells.length = 8 ∧ (∀ v ∈ cells, v.oneCell' = true) ∧ Fr [] w w' ∧
    ∀ pk w2, Fr [] w' w2 → w'.heap.size ≤ pk → Bk w2 pk 44 cells → Ks w w2 pk n 1 := by
  refine C_furlonglaw15_begin_link ?_
  unfold C_furlonglaw15_begin
  refine alloc_n (n := 8) (by kernel_rfl) ?_
  intro bk w1 l1 hl1 hb1 hB1 hF1 _
  refine (dnew_c (n := n) (by omega) (by omega)).use ?_
  rintro r w2 ⟨pd, bb, rfl, hd2, hF2, hpd, hbb⟩
  refine ext0 (ext1 ?_)
  refine (new_open hd2 (by omega)).use ?_
  rintro r w3 ⟨ps, tv, sv, lv2, G, life, at', tail, rfl, hsk, hinv, hsn, hls, hF3, n1, n2⟩
  refine ext0 (ext1 (ext2 ?_))
  refine alloc_n (n := 3) (by kernel_rfl) ?_
  intro b4 w4 l4 hl4 hb4 hB4 hF4 _
  refine store_all (vs := [.bool false, sv, lv2]) hB4 und44 hl4 rfl (by omega) (found_one (s := []) hsn hls) ?_
  intro w5 hB5 hF5 _
  have s1 := hF1.size
  have s2 := hF2.size
  have s3 := hF3.size
  have hl1' := hB1.lt
  have hF35 : Fr [] w3 w5 := hF4.trans hF5 (fun i hi => .inr (by simp at hi; omega))
  have hls5 := (sOwn.list (by decide)).fr hls (hF35.t (Fr.drew [] w5)) (fun i _ => by simp)
  have hsn5 := hsn.sl.fr (hF35.t (Fr.drew [] w5)) (fun i _ => by simp)
  obtain ⟨cells, Gc, hcap, hsl, hrows, _⟩ := list_open hls5
  have hB15 : Bk w5 bk 44 l1 := ((hB1.fr hF2 (by simp)).fr hF3 (by simp; omega)).fr hF35 (by simp)
  refine ⟨fun w' => Bk w' b4 33 [.bool false, sv, lv2], hB5.drew, ?_⟩
  refine mul64 (by omega) (sub64 (by omega) ?_)
  refine ⟨[ptr pd, ptr ps, .int .i64 (16 * n - 1024), .bool false, .slice none 0 0, .slice none 0 0, .int .i64 0, .int .i64 0], by kernel_rfl, by kernel_rfl, ?_⟩
  refine eql (gdT (by simp [isB]) rfl (gdT (by simp [isB]) (eql rfl) (pick_t (by simp) ?_)))
  refine gdT (by simp [isB]) rfl (gdT (by simp [isB]) (ptr_neq und31 rfl) (pick_t (by simp) ?_))
  refine gdT (by simp [isB]) (fad rfl) (gdT (by simp [isB]) (ldC_S (fun w' h => h) rfl rfl) (gdT (by simp [isB]) (notB rfl) (pick_t (by simp) ?_)))
  refine gdT (by simp [isB]) (fad rfl) (gdT (by simp [isB]) (ldC_S (fun w' h => h) rfl rfl) (gdT (by simp [isB]) (hsl.lenV rfl) ?_))
  refine gdT (by simp [isB]) (fad rfl) (gdT (by simp [isB]) (ldC_S (fun w' h => h) rfl rfl) (gdT (by simp [isB]) (hsn5.lenV rfl) ?_))
  refine gdT (by simp [isB]) (add64 (by simp) rfl) (gdT (by simp [isB]) (eql rfl) (pick_t (by simp) ?_))
  refine store_all (n := 8) (vs := [ptr pd, ptr ps, .int .i64 (16 * n - 1024), .bool false, .slice none 0 0, .slice none 0 0, .int .i64 0, .int .i64 0]) hB15.drew (by kernel_rfl) hl1 rfl (by omega) (by simp [ptr, Value.oneCell']) ?_
  intro w6 hB6 hF6 hs6
  have hne : b4 ≠ bk := by omega
  refine ⟨hB5.drew.fr hF6 (by simp; exact hne), ?_⟩
  refine ldA_bk hB6 (by simp) ⟨_, rfl, rfl, ?_, ?_, ?_⟩
  · simp [ptr, Value.oneCell']
  · have a3 : Fr [] w w3 := (hF1.t hF2).trans hF3 (fun i hi => .inr (by simp at hi; omega))
    exact ((a3.t hF35).t (Fr.drew [] w5)).trans hF6 (fun i hi => .inr (by simp at hi; omega))
  · intro pk w7 hF7 hpk hB7
    have a3 : Fr [] w w3 := (hF1.t hF2).trans hF3 (fun i hi => .inr (by simp at hi; omega))
    have a6 : Fr [] w w6 := ((a3.t hF35).t (Fr.drew [] w5)).trans hF6 (fun i hi => .inr (by simp at hi; omega))
    have b36 : Fr [bk] w3 w6 := ((hF35.t (Fr.drew [] w5)).mono (fun i hi => by simp at hi)).trans hF6 (fun i hi => .inl hi)
    have hlt := hsk.lt
    have hnb : ∀ i ∈ skX ps pd bb (.slice none 0 0) tv, i ≠ bk ∧ w.heap.size ≤ i := fun i hm => by
      rcases skX_mem.1 hm with e | e | e | e | e
      · omega
      · omega
      · omega
      · simp [fp_nil] at e
      · have := n2 i e; omega
    have h36 := b36.size
    refine ⟨ps, pd, bb, .slice none 0 0, tv, .slice none 0 0, .slice none 0 0, newD n, 1, life, at', 0, tail, false, [], [], [], [], { fr := a6.t hF7, blk := by simpa [took] using hB7, sk := (hsk.fr b36 (fun i hi hm => (hnb i hi).1 (by simpa using hm))).fresh hF7, inv := hinv, snp := ⟨.slice none 0 0, rfl, Nat.le_refl _, ⟨none, 0, rfl, rfl, fun _ => ⟨rfl, rfl⟩, fun a ha => by cases ha⟩, rfl⟩, lst := ⟨.slice none 0 0, [], [], rfl, Nat.le_refl _, ⟨none, 0, rfl, rfl, fun _ => ⟨rfl, rfl⟩, fun a ha => by cases ha⟩, ⟨rfl, rfl⟩, rfl⟩, newk := by have := a6.size; omega, newx := fun i hi => (hnb i hi).2, new1 := fun i hi => (by cases hi), new2 := fun i hi => (by cases hi), kx := fun hm => by have := hlt _ hm; omega, k1 := fun hm => (by cases hm), k2 := fun hm => (by cases hm), x1 := fun i hi hm => (by cases hm), x2 := fun i hi hm => (by cases hm), len := List.length_replicate, ll := Nat.zero_le _, n80 := hn, cnt := Nat.zero_le _, bnd' := by omega }⟩
end Go.Proofs.Ytmlaconjeplhpaa
