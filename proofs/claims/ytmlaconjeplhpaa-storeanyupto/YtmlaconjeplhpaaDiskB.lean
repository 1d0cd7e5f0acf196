/- Contracts of package disk. -/
import Derived.Test.YtmlaconjeplhpaaDiskA
set_option linter.unusedVariables false
set_option linter.unusedSimpArgs false
set_option maxRecDepth 20000
namespace Go.Proofs.Ytmlaconjeplhpaa
open Go Go.Vc
open St (Dsk All64 Blk pad)

def wcells (x : Nat × Blk × Blk) : List Value := .int .i64 x.1 :: (bytes x.2.1 ++ bytes x.2.2)
def lcells (L : List (Nat × Blk × Blk)) : List Value := L.flatMap wcells
def LAll (B : List Blk) (L : List (Nat × Blk × Blk)) : Prop := ∀ x ∈ L, x.1 < B.length ∧ (x.2.1.length = 64 ∧ ∀ c ∈ x.2.1, c < 256) ∧ (x.2.2.length = 64 ∧ ∀ c ∈ x.2.2, c < 256)
theorem lcells_len {B : List Blk} {L : List (Nat × Blk × Blk)} (h : LAll B L) : (lcells L).length = L.length * 129 := by
  induction L with
  | nil => rfl
  | cons x L ih =>
    have h1 := h x (by simp)
    have e : lcells (x :: L) = wcells x ++ lcells L := by simp [lcells]
    rw [e, List.length_append, ih (fun y hy => h y (by simp [hy])), List.length_cons]
    simp only [wcells, List.length_cons, List.length_append, bytes_length, h1.2.1.1, h1.2.2.1]
    omega
theorem lcells_get {B : List Blk} {L : List (Nat × Blk × Blk)} (h : LAll B L) : ∀ {i : Nat} (hi : i < L.length), (lcells L)[i * 129]? = some (.int .i64 (L[i].1 : Int)) ∧ ((lcells L).drop (i * 129 + 1)).take 64 = bytes L[i].2.1 := by
  induction L with
  | nil => intro i hi; simp at hi
  | cons x L ih =>
    intro i hi
    have h1 := h x (by simp)
    have e : lcells (x :: L) = wcells x ++ lcells L := by simp [lcells]
    have hl : (wcells x).length = 129 := by simp only [wcells, List.length_cons, List.length_append, bytes_length, h1.2.1.1, h1.2.2.1]
    have hb : (bytes x.2.1).length = 64 := by rw [bytes_length, h1.2.1.1]
    rw [e]
    cases i with
    | zero =>
      refine ⟨by simp [wcells], ?_⟩
      show (((.int .i64 x.1 :: (bytes x.2.1 ++ bytes x.2.2)) ++ lcells L).drop 1).take 64 = bytes x.2.1
      rw [List.cons_append, List.drop_one, List.tail_cons, List.append_assoc, ← hb, List.take_left]
    | succ i =>
      obtain ⟨k1, k2⟩ := ih (fun y hy => h y (by simp [hy])) (i := i) (by simpa using hi)
      refine ⟨?_, ?_⟩
      · rw [List.getElem?_append_right (by omega), hl, show (i + 1) * 129 - 129 = i * 129 by omega]; exact k1
      · rw [show (i + 1) * 129 + 1 = (wcells x).length + (i * 129 + 1) by omega, ← List.drop_drop, List.drop_left]; exact k2
/-- A disk stands at pd; its blocks at bb, its loose writes in lv. -/
structure Dk (w : World) (pd bb : Nat) (lv : Value) (D : Dsk) : Prop where
  blk : Bk w pd 116 [.slice (some ⟨bb, 0, none⟩) D.B.length D.B.length, lv]
  row : Bk w bb 118 (bytes D.B.flatten)
  all : All64 D.B
  own : Own w 120 129 lv D.L.length (lcells D.L)
  lall : LAll D.B D.L
  ne1 : pd ≠ bb
  ne2 : pd ∉ fp lv
  ne3 : bb ∉ fp lv
  len : D.B.length ≤ 65536
/-- Nothing of the disk is touched. -/
theorem Dk.fr {w w' : World} {pd bb : Nat} {lv : Value} {D : Dsk} {X : List Nat} (h : Dk w pd bb lv D) (f : Fr X w w') (h1 : pd ∉ X) (h2 : bb ∉ X) (h3 : ∀ i ∈ fp lv, i ∉ X) : Dk w' pd bb lv D :=
  ⟨h.blk.fr f h1, h.row.fr f h2, h.all, h.own.fr f h3, h.lall, h.ne1, h.ne2, h.ne3, h.len⟩
theorem Dk.fresh {w w' : World} {pd bb : Nat} {lv : Value} {D : Dsk} (h : Dk w pd bb lv D) (f : Fr [] w w') : Dk w' pd bb lv D := h.fr f (by simp) (by simp) (fun i _ => by simp)
theorem Dk.lt {w : World} {pd bb : Nat} {lv : Value} {D : Dsk} (h : Dk w pd bb lv D) : pd < w.heap.size ∧ bb < w.heap.size ∧ ∀ i ∈ fp lv, i < w.heap.size := ⟨h.blk.lt, h.row.lt, h.own.lt⟩
abbrev ptr (p : Nat) : Value := .pointer (some ⟨p, 0, none⟩)
theorem und26 : Try.prog.underlying 26 = some (.pointer (Try.prog.pointee 26)) := by kernel_rfl
theorem infoW : (Try.prog.info? 120).map (fun i => (i.zero, i.size, i.bytes)) = some (some ((zeroT Try.prog 120).getD undef), 129, 136) := by kernel_rfl
theorem infoK : (Try.prog.info? 118).map (fun i => (i.zero, i.size, i.bytes)) = some (some ((zeroT Try.prog 118).getD undef), 64, 64) := by kernel_rfl

section
variable {w : World} {pd bb : Nat} {lv : Value} {D : Dsk}
theorem dblocks_c (h : Dk w pd bb lv D) : CallF Try.prog 99 #[ptr pd] w fun r w' => r = .int .i64 D.B.length ∧ w' = w := by
  refine C_disk_Disk_Blocks_link ?_
  unfold C_disk_Disk_Blocks
  exact ptr_eql und26 (if_f rfl (nilC (fad (ldC_bk h.blk rfl (len ⟨rfl, rfl⟩)))))
theorem dloose_c (h : Dk w pd bb lv D) : CallF Try.prog 74 #[ptr pd] w fun r w' => r = .int .i64 D.L.length ∧ w' = w := by
  refine C_disk_Disk_Loose_link ?_
  unfold C_disk_Disk_Loose
  exact ptr_eql und26 (if_f rfl (nilC (fad (ldC_bk h.blk rfl (h.own.sl.lenV ⟨rfl, rfl⟩)))))
theorem dsync_c (h : Dk w pd bb lv D) : CallF Try.prog 69 #[ptr pd] w fun r w' => r = .int .i64 0 ∧ Dk w' pd bb (.slice none 0 0) ⟨D.B, []⟩ ∧ Fr [pd] w w' ∧ w'.heap.size = w.heap.size := by
  refine C_disk_Disk_Sync_link ?_
  unfold C_disk_Disk_Sync
  refine ptr_eql und26 (if_f rfl (nilC (fad (store' h.blk (by kernel_rfl) (by simp) rfl ?_))))
  intro w1 hB hF hs
  exact ⟨rfl, ⟨by simpa using hB, h.row.fr hF (by simp; exact fun e => h.ne1 e.symm), h.all, Own.nil _ _ _, by intro x hx; simp at hx, h.ne1, by simp [fp_nil], by simp [fp_nil], h.len⟩, hF, hs⟩
theorem dread_c (h : Dk w pd bb lv D) (n : Nat) : CallF Try.prog 100 #[ptr pd, .int .i64 n] w fun r w' => ∃ v, r = .tuple #[v, .int .i64 (if n < D.B.length then 0 else 8)] ∧ New w w' 5 1 v (D.B.getD n []).length (bytes (D.B.getD n [])) := by
  refine C_disk_Disk_Read_link ?_
  unfold C_disk_Disk_Read
  refine ptr_eql und26 (if_f rfl (lss ?_))
  refine gdT (by simp [isB]) rfl (gdT (by simp [isB]) rfl (gdT (by simp [isB]) (nilC rfl) (gdT (by simp [isB]) (fad rfl) (gdT (by simp [isB]) (ldC_bk h.blk rfl rfl) (gdT (by simp [isB]) (len rfl) (gdT (by simp [isB]) (geq rfl) (pick_f (by simp) ?_)))))))
  refine if_p (fun hge => ?_) (fun hlt => ?_)
  · have e : D.B.getD n [] = [] := by rw [List.getD_eq_getElem?_getD, List.getElem?_eq_none (by omega)]; rfl
    rw [if_neg (by omega), e]
    exact ⟨_, rfl, New.nil w _ 1⟩
  · have hn : n < D.B.length := by omega
    have e : D.B.getD n [] = D.B[n] := by rw [List.getD_eq_getElem?_getD, List.getElem?_eq_getElem hn]; rfl
    have hb := h.all _ (List.getElem_mem hn)
    have hg := flat_get h.all hn
    rw [if_pos hn, e]
    generalize D.B[n] = b at *
    refine nilC (fad (ldC_bk h.blk rfl (ixRow hn (ldA_bk h.row (by rw [bytes_length, flat_len h.all]; omega) ?_))))
    rw [bytes_drop, bytes_take, hg]
    refine alloc_n (n := 64) (by kernel_rfl) ?_
    intro p w1 l hl hp hB hF hs
    refine store_all hB (by kernel_rfl) hl (by rw [bytes_length]; exact hb.1) (by omega) (bytes_one _) ?_
    intro w2 hB2 hF2 hs2
    refine slcAll ?_
    have hF02 : Fr [] w w2 := hF.trans hF2 (fun i hi => .inr (by simp at hi; omega))
    refine append' (w0 := w2) (New.nil w2 _ 1) Try.underlying24 infoB rfl (by omega) (hB2.sl (n := 64) (by rw [bytes_length]; exact hb.1) 64) (bytes_one _) (by omega) (by omega) ?_
    intro v w3 hN _ _
    rw [Nat.zero_add, List.nil_append] at hN
    refine ⟨v, rfl, ?_⟩
    rw [hb.1]
    exact New.base hF02 hN
theorem dwrite_c (h : Dk w pd bb lv D) (n : Nat) {x : Value} {bs : List Nat} (hx : Sl w 1 x bs.length (bytes bs)) (hxl : bs.length ≤ 64) (hxb : ∀ c ∈ bs, c < 256) (hL : D.L.length ≤ 1000000000) :
    CallF Try.prog 17 #[ptr pd, .int .i64 n, x] w fun r w' => (∃ e, r = .int .i64 e) ∧ ∃ lv', Dk w' pd bb lv' (D.write n (pad bs)) ∧ Fr (pd :: bb :: fp lv) w w' ∧ (∀ i ∈ fp lv', i ∈ fp lv ∨ w.heap.size ≤ i) := by
  refine C_disk_Disk_Write_link ?_
  unfold C_disk_Disk_Write
  refine ptr_eql und26 (if_f rfl (lss ?_))
  refine gdT (by simp [isB]) rfl (gdT (by simp [isB]) rfl (gdT (by simp [isB]) (nilC rfl) (gdT (by simp [isB]) (fad rfl) (gdT (by simp [isB]) (ldC_bk h.blk rfl rfl) (gdT (by simp [isB]) (len rfl) (gdT (by simp [isB]) (geq rfl) (pick_f (by simp) ?_)))))))
  refine if_p (fun hge => ?_) (fun hlt => ?_)
  · have e : D.write n (pad bs) = D := by unfold Dsk.write; rw [if_neg (by omega)]
    rw [e]
    exact ⟨⟨_, rfl⟩, lv, h, Fr.refl _ _, fun i hi => .inl hi⟩
  have hn : n < D.B.length := by omega
  refine hx.lenV (gtr (if_p (fun hgt => absurd hgt (by omega)) (fun _ => ?_)))
  have hb := h.all _ (List.getElem_mem hn)
  have hg := flat_get h.all hn
  have hset := flat_set h.all (St.pad_length hxl) hn
  have hgd : D.B.getD n [] = D.B[n] := by rw [List.getD_eq_getElem?_getD, List.getElem?_eq_getElem hn]; rfl
  have e : D.write n (pad bs) = ⟨D.B.set n (pad bs), D.L ++ [(n, D.B[n], pad bs)]⟩ := by unfold Dsk.write; rw [if_pos hn, hgd]
  rw [e]
  generalize D.B[n] = c at *
  obtain ⟨lt1, lt2, lt3⟩ := h.lt
  refine alloc' (l := bytes (List.replicate 64 0)) (by kernel_rfl) ?_
  intro p w1 hp hB hF hs
  refine slcAll ?_
  refine do_copy (n := bs.length) (e := 5) Try.underlying24 (by kernel_rfl) hB (by simp [bytes]) (hx.fr hF (fun i _ => by simp)) (bytes_one _) hxl ?_
  intro _ w2 hB2 hF2 hs2
  have hpad : bytes bs ++ (bytes (List.replicate 64 0)).drop bs.length = bytes (pad bs) := by
    rw [bytes_drop, List.drop_replicate, ← bytes_append]; rfl
  rw [hpad] at hB2
  have hpl : (pad bs).length = 64 := St.pad_length hxl
  have hF02 : Fr [] w w2 := hF.trans hF2 (fun i hi => .inr (by simp at hi; omega))
  have h2 := h.fresh (hF02.t (Fr.drew [] w2))
  have hBd := hB2.drew
  have zd : (World.drew w2).heap.size = w2.heap.size := rfl
  have hpf : p ∉ fp lv := fun hm => by have := lt3 p hm; omega
  refine ⟨fun w' => Bk w' pd 116 [.slice (some ⟨bb, 0, none⟩) D.B.length D.B.length, lv] ∧ Bk w' bb 118 (bytes D.B.flatten) ∧ Bk w' p 118 (bytes (pad bs)), ⟨h2.blk, h2.row, hBd⟩, ?_⟩
  refine nilC (fad (ldC_S (fun w' h => h.1) rfl (nilC (fad (ldC_S (fun w' h => h.1) rfl ?_)))))
  refine ixRow hn (ldA_S (fun w' h => h.2.1) (by rw [bytes_length, flat_len h.all]; omega) (ldA_S (fun w' h => h.2.2) (by rw [bytes_length, hpl]; omega) ?_))
  rw [bytes_drop, bytes_take, hg, List.drop_zero, List.take_of_length_le (by rw [bytes_length, hpl]; omega)]
  have hcells : [Value.int .i64 n, .agg (bytes c).toArray, .agg (bytes (pad bs)).toArray].flatMap (fun v => v.cells.toList) = wcells (n, c, pad bs) := by simp [Value.cells, wcells]
  refine bldV (vals := [.int .i64 n, .agg (bytes c).toArray, .agg (bytes (pad bs)).toArray]) [1, 64, 64] (n := 129) (by kernel_rfl) (by kernel_rfl) rfl (by kernel_rfl) rfl (by simp [Value.cells, bytes_length, hb.1, hpl]) ?_
  rw [hcells]
  have hwl : (wcells (n, c, pad bs)).length = 129 := by simp [wcells, bytes_length, hb.1, hpl]
  refine lit1 (size := 129) Try.underlying114 infoW (by omega) (cs := wcells (n, c, pad bs)) (by simp [Value.cells]) hwl ?_
  intro q w3 hq hBq hF3 hs3
  have h3 := h2.fresh hF3
  refine ⟨⟨h3.blk, h3.row, hBd.fr hF3 (by simp)⟩, ?_⟩
  refine do_append Try.underlying114 infoW (by kernel_rfl) (by omega) h3.own (Bk.slN hBq (by rw [hwl]) 1) ?_ (by omega) (by omega) ?_
  · intro u hu
    unfold wcells at hu
    rcases List.mem_cons.1 hu with rfl | hu
    · rfl
    · rcases List.mem_append.1 hu with hu | hu
      · exact bytes_one _ u hu
      · exact bytes_one _ u hu
  intro lv' w4 ho4 hF4 hsub4
  have hpd4 : pd ∉ fp lv' := fun hm => (hsub4 pd hm).elim h.ne2 (fun h5 => by have := (hF02.t (Fr.drew [] w2)).size; have := hF3.size; omega)
  have hbb4 : bb ∉ fp lv' := fun hm => (hsub4 bb hm).elim h.ne3 (fun h5 => by have := (hF02.t (Fr.drew [] w2)).size; have := hF3.size; omega)
  have hp4 : p ∉ fp lv' := fun hm => (hsub4 p hm).elim hpf (fun h5 => by have := hF3.size; have := hB2.lt; omega)
  have hb4 := h3.blk.fr hF4 h.ne2
  have hr4 := h3.row.fr hF4 h.ne3
  have hB4 := (hBd.fr hF3 (by simp)).fr hF4 hpf
  refine ⟨⟨hb4, hr4, hB4⟩, ?_⟩
  obtain ⟨A4, c4, hlv'⟩ := ho4.len
  refine nilC (fad (store' hb4 (by kernel_rfl) (by simp) (by rw [hlv']; rfl) ?_))
  intro w5 hb5 hF5 hs5
  have hr5 := hr4.fr hF5 (by simp; exact fun e => h.ne1 e.symm)
  have hB5 := hB4.fr hF5 (by simp; omega)
  have ho5 := ho4.fr hF5 (fun i hi => by simp; intro e; subst e; exact hpd4 hi)
  have hb5' : Bk w5 pd 116 [.slice (some ⟨bb, 0, none⟩) D.B.length D.B.length, lv'] := by simpa using hb5
  refine ⟨fun w' => Bk w' pd 116 [.slice (some ⟨bb, 0, none⟩) D.B.length D.B.length, lv'] ∧ Bk w' p 118 (bytes (pad bs)), ⟨hb5'.drew, hB5.drew⟩, ?_⟩
  refine nilC (fad (ldC_S (fun w' h => h.1) rfl (ldA_S (fun w' h => h.2) (by rw [bytes_length, hpl]; omega) ?_)))
  rw [List.drop_zero, List.take_of_length_le (by rw [bytes_length, hpl]; omega)]
  refine ixRow hn ?_
  refine store_agg' (n := 64) hr5.drew (by kernel_rfl) (by rw [bytes_length, hpl]) (by omega) (by rw [bytes_length, flat_len h.all]; omega) (bytes_one _) ?_
  intro w6 hr6 hF6 hs6
  rw [hset] at hr6
  have hlset : (D.B.set n (pad bs)).length = D.B.length := List.length_set
  have hlc : lcells (D.L ++ [(n, c, pad bs)]) = lcells D.L ++ wcells (n, c, pad bs) := by simp [lcells]
  refine ⟨⟨_, rfl⟩, lv', ⟨by rw [hlset]; exact hb5'.drew.fr hF6 (by simp; exact h.ne1), hr6, St.set_64 h.all ⟨hpl, St.pad_lt hxb⟩, ?_, ?_, h.ne1, hpd4, hbb4, by rw [hlset]; exact h.len⟩, ?_, fun i hi => (hsub4 i hi).imp id (fun h5 => by have := (hF02.t (Fr.drew [] w2)).size; have := hF3.size; omega)⟩
  · rw [hlc, List.length_append]
    exact (ho5.fr (Fr.drew [] w5) (fun i _ => by simp)).fr hF6 (fun i hi => by simp; intro e; subst e; exact hbb4 hi)
  · intro y hy
    rw [hlset]
    rcases List.mem_append.1 hy with hy | hy
    · exact h.lall y hy
    · rw [List.mem_singleton.1 hy]
      exact ⟨hn, hb, hpl, St.pad_lt hxb⟩
  · have g3 : Fr [] w w3 := (hF02.t (Fr.drew [] w2)).t hF3
    have g4 : Fr (pd :: bb :: fp lv) w w4 := (g3.mono (fun i hi => by simp at hi)).trans hF4 (fun i hi => .inl (by simp [hi]))
    have g5 := g4.trans hF5 (fun i hi => .inl (by simp at hi; simp [hi]))
    exact (g5.t (Fr.drew _ w5)).trans hF6 (fun i hi => .inl (by simp at hi; simp [hi]))
end
end Go.Proofs.Ytmlaconjeplhpaa
