/- Contracts of package disk: New and Crash. -/
import Derived.Test.YtmlaconjeplhpaaDiskB
set_option linter.unusedVariables false
set_option linter.unusedSimpArgs false
set_option maxRecDepth 20000
namespace Go.Proofs.Ytmlaconjeplhpaa
open Go Go.Vc
open St (Dsk All64 Blk pad undo)

theorem made_rep {z : Array Value} {m : Nat} {c : Value} (hz : z.toList = List.replicate m c) (hm : 0 < m) (k : Nat) : (madeCells z k).toList = List.replicate k c := by
  have hs : z.size = m := by rw [← Array.length_toList, hz, List.length_replicate]
  have hg : ∀ i, i < m → z[i]! = c := fun i hi => by
    have h1 : z[i]? = some c := by rw [← Array.getElem?_toList, hz, List.getElem?_replicate, if_pos hi]
    rw [getElem!_def, h1]
  have hall : ∀ x, z[x % z.size]! = c := fun x => hg _ (by rw [hs]; exact Nat.mod_lt _ hm)
  unfold madeCells
  simp only [hall, Array.toList_map, Array.toList_range]
  rw [List.map_const', List.length_range]
theorem make_z {P : Program} {w : World} {k : Value → World → Prop} {t e : TypeId} {z c : Value} {m bytes n : Nat} {kl kc : IntKind} (ht : P.underlying t = some (.slice e)) (hi : (P.info? e).map (fun i => (i.zero, i.size, i.bytes)) = some (some z, m, bytes)) (hz : z.cells.toList = List.replicate m c) (hm : 0 < m) (hb : bytes * n ≤ 281474976710656) (hc : n ≤ 140737488355328)
    (h : ∀ b w', w.heap.size = b → Bk w' b e (List.replicate (n * m) c) → Fr [] w w' → w'.heap.size = b + 1 → k (.slice (some ⟨b, 0, none⟩) n n) w') : Do P (Instr.makeSlice t (.int kl (n : Int)) (.int kc (n : Int))) w k := by
  obtain ⟨i, hi', hz', hs, hby⟩ := info_of hi
  subst hby
  subst hs
  have hb' : (i.bytes : Int) * (n : Int) ≤ 281474976710656 := by
    have h : ((i.bytes * n : Nat) : Int) ≤ 281474976710656 := by omega
    rwa [Int.natCast_mul] at h
  have hr := run_make (P := P) w t e i z ht hi' hz' kl kc n n (by omega) (Int.le_refl _) hb' (by omega)
  simp only [Int.toNat_natCast] at hr
  refine ⟨_, _, hr, h _ _ rfl ?_ (Fr.alloc _ _ _) (alloc_size _ _)⟩
  have := made_rep hz hm (n * i.size)
  have e2 : madeCells z.cells (n * i.size) = (List.replicate (n * i.size) c).toArray := by apply Array.ext'; rw [this]
  rw [e2]
  exact alloc_new w _
theorem flat_rep (n : Nat) : (List.replicate n (List.replicate 64 0)).flatten = List.replicate (n * 64) 0 := by
  induction n with
  | zero => rfl
  | succ n ih => rw [List.replicate_succ, List.flatten_cons, ih, List.replicate_append_replicate]; congr 1; omega
def newD (n : Nat) : Dsk := ⟨List.replicate n (List.replicate 64 0), []⟩
theorem dnew_c {w : World} {n : Nat} (h1 : 1 ≤ n) (h2 : n ≤ 65536) : CallF Try.prog 16 #[.int .i64 n] w fun r w' => ∃ pd bb, r = .tuple #[ptr pd, .int .i64 0] ∧ Dk w' pd bb (.slice none 0 0) (newD n) ∧ Fr [] w w' ∧ w.heap.size ≤ pd ∧ w.heap.size ≤ bb := by
  refine C_disk_New_link ?_
  unfold C_disk_New
  refine lss (gdT (by simp [isB]; omega) rfl (gdT (by simp [isB]; omega) (gtr rfl) (pick_f (by simp; omega) (if_p (fun h => absurd h (by omega)) (fun _ => ?_)))))
  refine make_z (n := n) Try.underlying113 infoK (c := .int .u8 0) (by kernel_rfl) (by omega) (by omega) (by omega) ?_
  intro bb w1 hbb hB hF hs
  refine ⟨[.slice (some ⟨bb, 0, none⟩) n n, .slice none 0 0], by kernel_rfl, by kernel_rfl, ?_⟩
  refine box' (l := [.slice (some ⟨bb, 0, none⟩) n n, .slice none 0 0]) rfl ?_
  intro pd w2 hpd hB2 hF2 hs2
  have hr : (newD n).B.length = n := by simp [newD]
  refine ⟨pd, bb, rfl, ⟨by rw [hr]; exact hB2, ?_, ?_, Own.nil _ _ _, fun x hx => by simp [newD] at hx, by omega, by simp [fp_nil], by simp [fp_nil], by rw [hr]; exact h2⟩, hF.t hF2, by omega, by omega⟩
  · have e : bytes (newD n).B.flatten = List.replicate (n * 64) (.int .u8 0) := by
      show bytes ((List.replicate n (List.replicate 64 0)).flatten) = _
      rw [flat_rep]; simp [bytes]
    rw [e]
    exact hB.fr hF2 (by simp)
  · intro b hb
    rw [List.eq_of_mem_replicate hb]
    exact ⟨by simp, fun x hx => by rw [List.eq_of_mem_replicate hx]; omega⟩
theorem undo_set (B : List Blk) (L : List (Nat × Blk × Blk)) {j : Nat} (hj : j < L.length) : undo B (L.drop j) = (undo B (L.drop (j + 1))).set L[j].1 L[j].2.1 := by
  rw [List.drop_eq_getElem_cons hj]; rfl
theorem undo_64 {B : List Blk} (h : All64 B) : ∀ {L : List (Nat × Blk × Blk)}, LAll B L → All64 (undo B L)
  | [], _ => h
  | x :: L, hl => St.set_64 (undo_64 h (fun y hy => hl y (by simp [hy]))) (hl x (by simp)).2.1
theorem dcrash_c {w : World} {pd bb : Nat} {lv : Value} {D : Dsk} (h : Dk w pd bb lv D) (hL : D.L.length ≤ 1000000000) (keep : Nat) : CallF Try.prog 39 #[ptr pd, .int .i64 keep] w fun r w' => r = .int .i64 0 ∧ Dk w' pd bb (.slice none 0 0) ⟨D.at keep, []⟩ ∧ Fr [pd, bb] w w' := by
  refine C_disk_Disk_Crash_link ?_
  unfold C_disk_Disk_Crash
  refine ptr_eql und26 (if_f rfl (lss (if_p (fun h => absurd h (by omega)) (fun _ => ?_))))
  refine nilC (fad (ldC_bk h.blk rfl (h.own.sl.lenV (sub64 (by omega) ?_))))
  have hDL := Nat.le_refl D.L.length
  have dk0 : ∀ {B' : List Blk}, B'.length = D.B.length → LAll B' D.L := fun hb x hx => by rw [hb]; exact h.lall x hx
  refine ⟨fun m i w' => ∃ j : Nat, j ≤ D.L.length ∧ m = j ∧ i = .int .i64 ((j : Int) - 1) ∧ (j = D.L.length ∨ keep ≤ j) ∧ Dk w' pd bb lv ⟨undo D.B (D.L.drop j), D.L⟩ ∧ Fr [pd, bb] w w', D.L.length,
    ⟨D.L.length, Nat.le_refl _, rfl, rfl, .inl rfl, by rw [List.drop_length]; exact h, Fr.refl _ _⟩, ?_⟩
  rintro m i w1 ⟨j, hj, hmj, rfl, hjk, h1, hF1⟩
  refine geq (if_p (fun hge => ?_) (fun hlt => ?_))
  · obtain ⟨j', rfl⟩ : ∃ j', j = j' + 1 := ⟨j - 1, by omega⟩
    have hj' : j' < D.L.length := by omega
    have ej : ((j' + 1 : Nat) : Int) - 1 = (j' : Int) := by omega
    rw [ej]
    obtain ⟨hl1, hl2, hl3⟩ := h.lall _ (List.getElem_mem hj')
    obtain ⟨k1, k2⟩ := lcells_get h.lall hj'
    have hlen := lcells_len h.lall
    have hu := undo_set D.B D.L hj'
    have hul : (undo D.B (D.L.drop (j' + 1))).length = D.B.length := St.undo_length _ _
    have hall := h1.all
    simp only at hall
    generalize D.L[j'] = y at *
    have hd := h1.fresh (Fr.drew [] w1)
    have hsl : Sl (World.drew w1) 129 lv D.L.length (lcells D.L) := hd.own.sl
    refine ⟨fun w' => Bk w' pd 116 [.slice (some ⟨bb, 0, none⟩) (undo D.B (D.L.drop (j' + 1))).length (undo D.B (D.L.drop (j' + 1))).length, lv] ∧ Sl w' 129 lv D.L.length (lcells D.L), ⟨hd.blk, hsl⟩, ?_⟩
    refine nilC (fad (ldC_S (fun w' h => h.1) rfl (nilC (fad (ldC_S (fun w' h => h.1) rfl ?_)))))
    refine ixFC (u := .int .i64 (y.1 : Int)) (fun w' h => h.2) hsl hj' (by rw [Nat.add_zero]; exact k1) ?_
    refine nilC (fad (ldC_S (fun w' h => h.1) rfl ?_))
    refine ixFA (m := 64) (fun w' h => h.2) hsl hj' (by rw [hlen]; omega) ?_
    rw [k2]
    refine ixRow (by rw [hul]; exact hl1) ?_
    have hrow := hd.row
    simp only at hrow
    refine store_agg' (n := 64) hrow (by kernel_rfl) (by rw [bytes_length, hl2.1]) (by omega) (by rw [bytes_length, flat_len hall, hul]; omega) (bytes_one _) ?_
    intro w2 hB2 hF2 hs2
    rw [flat_set hall hl2.1 (by rw [hul]; exact hl1), ← hu] at hB2
    refine sub64 (by omega) ⟨j', by omega, j', by omega, rfl, rfl, .inr (by omega), ?_, ?_⟩
    · have hul' : (undo D.B (D.L.drop j')).length = D.B.length := St.undo_length _ _
      have hb := hd.blk.fr hF2 (by simp; exact h.ne1)
      simp only [hul] at hb
      refine ⟨by simp only [hul']; exact hb, hB2, undo_64 h.all (fun x hx => h.lall x (List.mem_of_mem_drop hx)), hd.own.fr hF2 (fun i hi => by simp; intro e; subst e; exact h.ne3 hi), dk0 hul', h.ne1, h.ne2, h.ne3, by simp only [hul']; exact h.len⟩
    · exact (hF1.t (Fr.drew _ w1)).trans hF2 (fun i hi => .inl (by simp at hi; simp [hi]))
  · refine nilC (fad (store' h1.blk (by kernel_rfl) (by simp) rfl ?_))
    intro w2 hB2 hF2 hs2
    have he : undo D.B (D.L.drop j) = D.at keep := by
      unfold Dsk.at
      rcases hjk with hj2 | hj2
      · rw [hj2, List.drop_length, List.drop_of_length_le (by omega)]
      · rw [show j = keep by omega]
    rw [← he]
    have hrow := h1.row
    have hall := h1.all
    have hlen := h1.len
    simp only at hrow hall hlen
    exact ⟨rfl, ⟨by simpa using hB2, hrow.fr hF2 (by simp; exact fun e => h.ne1 e.symm), hall, Own.nil _ _ _, fun x hx => by simp at hx, h.ne1, by simp [fp_nil], by simp [fp_nil], hlen⟩, hF1.trans hF2 (fun i hi => .inl (by simp at hi; simp [hi]))⟩
end Go.Proofs.Ytmlaconjeplhpaa
