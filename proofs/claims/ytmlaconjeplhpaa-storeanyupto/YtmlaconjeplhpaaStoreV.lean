/- The law StoreAny, for arguments that stand in memory. -/
import Derived.Test.YtmlaconjeplhpaaStoreU
set_option linter.unusedVariables false
set_option linter.unusedSimpArgs false
set_option maxRecDepth 20000
namespace Go.Proofs.Ytmlaconjeplhpaa
open Go Go.Vc
open St (Dsk All64 Blk pad four put4 halfN base hb walk eldest rootF openF putF rootL SInv encAll encRec mkB allF foundOf recs)

theorem write_len (D : Dsk) (n : Nat) (b : Blk) : (D.write n b).B.length = D.B.length := by unfold Dsk.write; split <;> simp
theorem putF_small {gen life bs : Nat} : ∀ (n : Nat) (D : Dsk) (at' : Nat) (t : List Nat), t.length < n → ∀ {D' at2 t2}, putF gen life bs n D at' t = (D', at2, t2) → t2.length < 55 ∧ at2 ≤ at' + t.length ∧ (∀ c ∈ t2, c ∈ t) ∧ D'.B.length = D.B.length
  | 0, D, at', t, h, D', at2, t2, e => by omega
  | n + 1, D, at', t, h, D', at2, t2, e => by
    rw [putF_succ] at e
    split at e
    · obtain ⟨rfl, rfl, rfl⟩ : _ ∧ _ ∧ _ := by simpa using e
      exact ⟨by assumption, by omega, fun c hc => hc, write_len _ _ _⟩
    · split at e
      · obtain ⟨rfl, rfl, rfl⟩ : _ ∧ _ ∧ _ := by simpa using e
        exact ⟨by simp, by omega, by simp, write_len _ _ _⟩
      · have hl : (t.drop 55).length = t.length - 55 := List.length_drop
        obtain ⟨a, b, c, d⟩ := putF_small n _ _ _ (by omega) e
        exact ⟨a, by omega, fun x hx => List.mem_of_mem_drop (c x hx), d.trans (write_len _ _ _)⟩
theorem enc_count (l : List (List Nat)) : l.length ≤ (encAll l).length := by
  rw [St.encAll_length]
  induction l with
  | nil => simp
  | cons p l ih => simp only [List.map_cons, List.sum_cons, List.length_cons]; omega
theorem found_small {gen life sz : Nat} {wh : Bool} {all : List Nat} (hs : sz ≤ all.length) (ha : all.length ≤ 1802240) (hb : ∀ x ∈ all, x < 256) :
    (foundOf gen life wh sz all).at' ≤ 100000 ∧ (foundOf gen life wh sz all).tail.length < 55 ∧ (∀ c ∈ (foundOf gen life wh sz all).tail, c < 256) ∧ (foundOf gen life wh sz all).list.length ≤ 2000000 := by
  obtain ⟨_, j, hj, _⟩ := St.recs_enc (l := all.drop sz) (fun x hx => hb x (List.mem_of_mem_drop hx))
  have h1 := congrArg List.length hj
  rw [List.length_append, List.length_drop] at h1
  have h2 := enc_count (recs (all.drop sz))
  obtain ⟨e, he⟩ : ∃ e, sz + (encAll (recs (all.drop sz))).length = e := ⟨_, rfl⟩
  unfold foundOf
  simp only [he]
  refine ⟨by omega, by simp only [List.length_drop, List.length_take]; omega, fun c hc => hb c (List.mem_of_mem_take (List.mem_of_mem_drop hc)), by omega⟩
theorem openF_small {B : List Blk} (hB : All64 B) (hl : B.length ≤ 65536) : (openF B).at' ≤ 100000 ∧ (openF B).tail.length < 55 ∧ (∀ c ∈ (openF B).tail, c < 256) ∧ (openF B).list.length ≤ 2000000 := by
  have h1 := St.walk_length (H := hb B (rootF B).1) (gen := (rootF B).1) (halfN B) 0 0
  have h2 := St.walk_lt (H := hb B (rootF B).1) (gen := (rootF B).1) (fun i => (St.hb_64 hB _ i).2) (halfN B) 0 0
  have h3 : halfN B ≤ 32767 := by unfold halfN; omega
  unfold openF
  split
  · exact found_small (Nat.zero_le _) (by simp) (by simp)
  · exact found_small (by omega) (by unfold allF; omega) h2
section
variable {w : World} {ps pd bb : Nat} {lv tv x : Value} {D : Dsk} {gen life at' count safe : Nat} {tail p : List Nat}
theorem dwrite_any (h : Dk w pd bb lv D) (z : Int) {x : Value} {bs : List Nat} (hx : Sl w 1 x bs.length (bytes bs)) (hxb : ∀ c ∈ bs, c < 256) (hL : D.L.length ≤ 1000000000) :
    CallF Try.prog 17 #[ptr pd, .int .i64 z, x] w fun r w' => ∃ lv' D', Dk w' pd bb lv' D' ∧ D'.B.length = D.B.length ∧ D'.L.length ≤ D.L.length + 1 ∧ Fr (pd :: bb :: fp lv) w w' ∧ (∀ i ∈ fp lv', i ∈ fp lv ∨ w.heap.size ≤ i) := by
  by_cases hz : z < 0
  · refine C_disk_Disk_Write_link ?_
    unfold C_disk_Disk_Write
    refine ptr_eql und26 (if_f rfl (lss ?_))
    have hf : isB (.bool (decide (z < 0))) false = false := by simp [isB]; omega
    refine gdF hf (gdF hf (gdF hf (gdF hf (gdF hf (gdF hf (gdF hf (pick_t (by simp; omega) (if_t rfl ?_))))))))
    exact ⟨lv, D, h, rfl, by omega, Fr.refl _ _, fun i hi => .inl hi⟩
  obtain ⟨n, rfl⟩ : ∃ n : Nat, z = n := ⟨z.toNat, by omega⟩
  by_cases hl : bs.length ≤ 64
  · refine (dwrite_c h n hx hl hxb hL).use ?_
    rintro _ w1 ⟨_, lv', hd, hF, hs⟩
    exact ⟨lv', _, hd, write_len _ _ _, by unfold Dsk.write; split <;> simp, hF, hs⟩
  · refine C_disk_Disk_Write_link ?_
    unfold C_disk_Disk_Write
    refine ptr_eql und26 (if_f rfl (lss ?_))
    refine gdT (by simp [isB]) rfl (gdT (by simp [isB]) rfl (gdT (by simp [isB]) (nilC rfl) (gdT (by simp [isB]) (fad rfl) (gdT (by simp [isB]) (ldC_bk h.blk rfl rfl) (gdT (by simp [isB]) (len rfl) (gdT (by simp [isB]) (geq rfl) (pick_f (by simp) ?_)))))))
    refine if_p (fun hge => ⟨lv, D, h, rfl, by omega, Fr.refl _ _, fun i hi => .inl hi⟩) (fun hlt => ?_)
    exact hx.lenV (gtr (if_p (fun _ => ⟨lv, D, h, rfl, by omega, Fr.refl _ _, fun i hi => .inl hi⟩) (fun hgt => absurd hgt (by omega))))
theorem schk_any (h : Sk w ps pd bb lv tv D gen life at' count safe tail) (hx : Sl w 1 x p.length (bytes p)) (hpb : ∀ c ∈ p, c < 256) {g2 : Nat} (hg2 : g2 = (gen + 1) % 4294967296) (hxd : 0 < p.length → ∀ i ∈ fp x, i ∉ skX ps pd bb lv tv) (hL : D.L.length ≤ 100000000) (hD : D.B.length ≤ 65536) :
    CallF Try.prog 20 #[ptr ps, x] w fun r w' =>
      (r = .int .i64 3 ∧ 524288 < p.length ∧ Fr [] w w') ∨
      (r = .int .i64 10 ∧ p.length ≤ 524288 ∧ halfN D.B * 55 < p.length ∧ Fr [] w w') ∨
      (r = .int .i64 0 ∧ p.length ≤ 524288 ∧ p.length ≤ halfN D.B * 55 ∧ ∃ D' at2 t2, putF g2 life (base (halfN D.B) g2) (p.length + 1) ⟨D.B, []⟩ 0 p = (D', at2, t2) ∧
        Wrote w ps pd bb lv tv D ⟨((Dsk.mk D'.B []).write (g2 % 2) (pad (rootL g2 p.length))).B, []⟩ g2 life at2 0 0 t2 w') := by
  have hhalf : halfN D.B ≤ 65536 := by unfold halfN; omega
  refine C_store_Store_Checkpoint_link ?_
  unfold C_store_Store_Checkpoint
  refine ptr_eql und31 (if_f rfl (hx.lenV (gtr (if_p (fun hgt => .inl ⟨rfl, by omega, Fr.refl _ _⟩) (fun hle => ?_)))))
  refine hx.lenV ?_
  refine (half_c h.dk h.blk).use ?_
  rintro _ w0 ⟨rfl, hw0⟩
  rw [hw0]
  refine mul64 (by omega) (gtr (if_p (fun hgt => .inr (.inl ⟨rfl, by omega, by omega, Fr.refl _ _⟩)) (fun hle2 => ?_)))
  refine nilC (fad (ldC_bk h.blk rfl ((dsync_c h.dk).use ?_)))
  rintro _ w1 ⟨rfl, hd1, hF1, hs1⟩
  have h1 : Sk w1 ps pd bb (.slice none 0 0) tv ⟨D.B, []⟩ gen life at' count safe tail := h.redisk hd1 (hF1.mono (fun i hi => .inl (by simp at hi; simp [hi]))) (by simp [fp_nil])
  refine nilC (fad (ldC_bk h1.blk rfl (addw ?_)))
  have eg : IntKind.u32.wrap ((gen : Int) + 1) = ((g2 : Nat) : Int) := by
    rw [IntKind.wrap_u32]; omega
  have hg : g2 < 4294967296 := by omega
  clear hg2
  rw [eg]
  refine nilC (fad (store' h1.blk (by kernel_rfl) (by simp) rfl ?_))
  intro w2 hB2 hF2 hs2
  refine nilC (fad (store' hB2 (by kernel_rfl) (by simp) rfl ?_))
  intro w3 hB3 hF3 hs3
  refine nilC (fad (store' hB3 (by kernel_rfl) (by simp) rfl ?_))
  intro w4 hB4 hF4 hs4
  refine nilC (fad (store' hB4 (by kernel_rfl) (by simp) rfl ?_))
  intro w5 hB5 hF5 hs5
  refine nilC (fad (store' hB5 (by kernel_rfl) (by simp) rfl ?_))
  intro w6 hB6 hF6 hs6
  have hF16 : Fr [ps] w1 w6 := (((hF2.t hF3).t hF4).t hF5).t hF6
  have hnps : ps ∉ fp (.slice none 0 0) := by simp [fp_nil]
  have h6 : Sk w6 ps pd bb (.slice none 0 0) (.slice none 0 0) ⟨D.B, []⟩ g2 life 0 0 0 [] :=
    ⟨hd1.fr hF16 (by simp; exact fun e => h.s1 e.symm) (by simp; exact fun e => h.s2 e.symm) (by simp [fp_nil]), by simpa using hB6, Own.nil _ _ _, h.s1, h.s2, by simp [fp_nil], by simp [fp_nil], by simp [fp_nil], by simp [fp_nil], by simp [fp_nil], hg, h.l⟩
  have hF06 : Fr [ps, pd] w w6 := (hF1.mono (fun i hi => .inl (by simp at hi; simp [hi]))).trans hF16 (fun i hi => .inl (by simp at hi; simp [hi]))
  have hF06' : Fr (skX ps pd bb lv tv) w w6 := hF06.mono (fun i hi => .inl (skX_mem.2 (by simp at hi; rcases hi with h | h <;> simp [h])))
  have hx6 : Sl w6 1 x p.length (bytes p) := hx.fr1 hF06' hxd
  refine (sput_c h6 hx6 (by simpa using hpb) (by omega) (by simp; omega) (by simp)).use ?_
  rintro _ w7 ⟨rfl, lv7, tv7, D7, at7, t7, hput, h7, hF7, hs7, hL7⟩
  simp only [List.nil_append] at hput hL7
  have sub7 : ∀ i ∈ skX ps pd bb lv7 tv7, i ∈ skX ps pd bb lv tv ∨ w.heap.size ≤ i := fun i hi => (hs7 i hi).elim (fun h0 => .inl (by rcases skX_mem.1 h0 with h | h | h | h | h <;> first | exact skX_mem.2 (by simp [h]) | simp [fp_nil] at h)) (fun h0 => .inr (by have := hF06.size; omega))
  have hF07 : Fr (skX ps pd bb lv tv) w w7 := hF06'.trans hF7 (fun i hi => .inl (by rcases skX_mem.1 hi with h | h | h | h | h <;> first | exact skX_mem.2 (by simp [h]) | simp [fp_nil] at h))
  refine nilC (fad (ldC_bk h7.blk rfl ((dsync_c h7.dk).use ?_)))
  rintro _ w8 ⟨rfl, hd8, hF8, hs8⟩
  have h8 : Sk w8 ps pd bb (.slice none 0 0) tv7 ⟨D7.B, []⟩ g2 life at7 0 0 t7 := h7.redisk hd8 (hF8.mono (fun i hi => .inl (by simp at hi; simp [hi]))) (by simp [fp_nil])
  have sub8 : ∀ i ∈ skX ps pd bb (.slice none 0 0) tv7, i ∈ skX ps pd bb lv tv ∨ w.heap.size ≤ i := fun i hi => sub7 i (by rcases skX_mem.1 hi with h | h | h | h | h <;> first | exact skX_mem.2 (by simp [h]) | simp [fp_nil] at h)
  have hF08 : Fr (skX ps pd bb lv tv) w w8 := hF07.trans hF8 (fun i hi => .inl (skX_mem.2 (by simp at hi; simp [hi])))
  refine lit' (vs := bytes St.magicN) Try.underlying24 infoB rfl rfl rfl (by omega) (fun v hv => by obtain ⟨_, _, rfl⟩ := List.mem_map.1 hv; rfl) ?_
  intro b w9 hb9 hB9 hF9 _
  refine conv_lit hB9 rfl ?_
  intro w10 hF10 hS10
  have hF810 : Fr [] w8 w10 := hF9.trans hF10 (fun i hi => .inr (by simp at hi; omega))
  have h10 := h8.fresh hF810
  refine nilC (fad (ldC_bk h10.blk rfl ?_))
  refine (putg_c (bs := St.magicN) hS10 g2 (by decide)).use ?_
  intro v11 w11 hN11
  have hN11' : Row w8 w11 v11 (St.magicN ++ put4 g2) := hN11.base hF810
  have h11 := (h8.fresh hN11'.fr).fresh (Fr.drew [] w11)
  refine ⟨fun w' => Bk w' ps 124 [ptr pd, .int .u32 (g2 : Nat), .int .u32 life, tv7, .int .i64 at7, .int .i64 0, .int .i64 0], h11.blk, ?_⟩
  refine nilC (fad (ldC_S (fun w' h => h) rfl (nilC (fad (ldC_S (fun w' h => h) rfl (rem (by omega) ?_))))))
  have e2 : (((g2 : Nat) : Int).tmod 2) = ((g2 % 2 : Nat) : Int) := rfl
  rw [e2]
  refine conv_i64 (by omega) (hx.lenV (conv_u32 (by omega) ?_))
  refine (put_c (hN11'.fresh (Fr.drew [] w11)) p.length (by simp [St.magicN, put4])).use ?_
  intro v12 w12 hN12
  have hrl : (St.magicN ++ put4 g2) ++ put4 p.length = rootL g2 p.length := rfl
  rw [hrl] at hN12
  have h12 := h8.fresh hN12.fr
  refine ⟨h12.blk, ?_⟩
  have hrlen : (rootL g2 p.length).length = 16 := rfl
  refine (dwrite_c h12.dk (g2 % 2) hN12.own.sl (by rw [hrlen]; omega) (by
    intro c hc
    rcases List.mem_append.1 hc with hc | hc
    · rcases List.mem_append.1 hc with hc | hc
      · simp [St.magicN] at hc; omega
      · exact St.put4_lt _ c hc
    · exact St.put4_lt _ c hc) (by simp)).use ?_
  rintro _ w13 ⟨_, lv13, hd13, hF13, hs13⟩
  have h13 := h12.redisk hd13 hF13 hs13
  refine ⟨h13.blk, ?_⟩
  refine nilC (fad (ldC_bk h13.blk rfl ((dsync_c h13.dk).use ?_)))
  rintro _ w14 ⟨rfl, hd14, hF14, hs14⟩
  have h14 := h13.redisk hd14 (hF14.mono (fun i hi => .inl (by simp at hi; simp [hi]))) (by simp [fp_nil])
  refine .inr (.inr ⟨rfl, by omega, by omega, D7, at7, t7, hput, .slice none 0 0, tv7, h14, ?_, sub8⟩)
  have hF012 : Fr (skX ps pd bb lv tv) w w12 := hF08.trans hN12.fr (fun i hi => by simp at hi)
  refine (hF012.trans hF13 ?_).trans hF14 (fun i hi => .inl (skX_mem.2 (by simp at hi; simp [hi])))
  intro i hi
  refine .inl (skX_mem.2 ?_)
  simp [fp_nil] at hi
  rcases hi with h | h <;> simp [h]
end
theorem up1 {a k k2 : Nat} (h : a ≤ k * 200000) (hk : k ≤ k2) : a ≤ k2 * 200000 := Nat.le_trans h (Nat.mul_le_mul_right _ hk)
theorem up2 {a k k2 : Nat} (h : a ≤ 100000 + k * 200000) (hk : k ≤ k2) : a ≤ 100000 + k2 * 200000 := Nat.le_trans h (Nat.add_le_add_left (Nat.mul_le_mul_right _ hk) _)
/-- A store that stands on some disk. -/
def An (w w' : World) (ps pd n k : Nat) : Prop := ∃ bb lv tv D gen life at' count safe tail, Fr [] w w' ∧ Sk w' ps pd bb lv tv D gen life at' count safe tail ∧ (∀ i ∈ skX ps pd bb lv tv, w.heap.size ≤ i) ∧ D.B.length = n ∧ D.L.length ≤ k * 200000 ∧ at' ≤ 100000 + k * 200000 ∧ tail.length < 55 ∧ (∀ c ∈ tail, c < 256) ∧ count ≤ 2000000 + k
section
variable {w w1 : World} {ps pd n k : Nat} {x : Value} {p F : List Nat}
theorem an_append (h : An w w1 ps pd n k) (hk : k ≤ 4) (hn : n ≤ 65536) (hx : sSl.rd w [x] p F) (hpb : ∀ c ∈ p, c < 256) :
    CallF Try.prog 19 #[ptr ps, x] w1 fun r w' => An w w' ps pd n (k + 1) := by
  obtain ⟨bb, lv, tv, D, gen, life, at', count, safe, tail, hF, hsk, hnew, hlen, hll, hat, htl, htb, hc⟩ := h
  obtain ⟨hxs, _⟩ := sSl_sl hx
  refine (sappend_c hsk (hxs.fr hF (fun i _ => by simp)) hpb htb (by omega) (by omega) (by omega) (by omega)).use ?_
  rintro r w2 (⟨rfl, hlong, hF1⟩ | ⟨rfl, hle, hfull, hF1⟩ | ⟨rfl, hle, hfit, D', at2, t2, hput, hL', lv', tv', hsk1, hF1, hsub⟩)
  · exact ⟨bb, lv, tv, D, gen, life, at', count, safe, tail, hF.t hF1, hsk.fresh hF1, hnew, hlen, up1 hll (by omega), up2 hat (by omega), htl, htb, by omega⟩
  · exact ⟨bb, lv, tv, D, gen, life, at', count, safe, tail, hF.t hF1, hsk.fresh hF1, hnew, hlen, up1 hll (by omega), up2 hat (by omega), htl, htb, by omega⟩
  · obtain ⟨a, b, c, d⟩ := putF_small _ _ _ _ (by omega) hput
    have hel : (tail ++ encRec p).length = tail.length + (4 + p.length) := by simp [encRec, put4]; omega
    have hs := hF.size
    have hs1 := hF1.size
    refine ⟨bb, lv', tv', D', gen, life, at2, count + 1, safe, t2, hF.trans hF1 (fun i hi => .inr (hnew i hi)), hsk1, fun i hi => (hsub i hi).elim (hnew i) (fun _ => by omega), d.trans hlen, by omega, by omega, a, fun x hx => ?_, by omega⟩
    exact (List.mem_append.1 (c x hx)).elim (htb x) (St.encRec_lt hpb x)
theorem an_check (h : An w w1 ps pd n k) (hk : k ≤ 3) (hn : n ≤ 65536) (hx : sSl.rd w [x] p F) (hpb : ∀ c ∈ p, c < 256) :
    CallF Try.prog 20 #[ptr ps, x] w1 fun r w' => An w w' ps pd n (k + 3) := by
  obtain ⟨bb, lv, tv, D, gen, life, at', count, safe, tail, hF, hsk, hnew, hlen, hll, hat, htl, htb, hc⟩ := h
  obtain ⟨hxs, hxl⟩ := sSl_sl hx
  refine (schk_any hsk (hxs.fr hF (fun i _ => by simp)) hpb rfl (fun h0 i hi hm => by have := hxl h0 i hi; have := hnew i hm; omega) (by omega) (by omega)).use ?_
  rintro r w2 (⟨rfl, hlong, hF1⟩ | ⟨rfl, hle, hfull, hF1⟩ | ⟨rfl, hle, hfit, D', at2, t2, hput, lv', tv', hsk1, hF1, hsub⟩)
  · exact ⟨bb, lv, tv, D, gen, life, at', count, safe, tail, hF.t hF1, hsk.fresh hF1, hnew, hlen, up1 hll (by omega), up2 hat (by omega), htl, htb, by omega⟩
  · exact ⟨bb, lv, tv, D, gen, life, at', count, safe, tail, hF.t hF1, hsk.fresh hF1, hnew, hlen, up1 hll (by omega), up2 hat (by omega), htl, htb, by omega⟩
  · obtain ⟨a, b, c, d⟩ := putF_small _ _ _ _ (by omega) hput
    have hs := hF.size
    have hs1 := hF1.size
    exact ⟨bb, lv', tv', _, _, life, at2, 0, 0, t2, hF.trans hF1 (fun i hi => .inr (hnew i hi)), hsk1, fun i hi => (hsub i hi).elim (hnew i) (fun _ => by omega), (write_len _ _ _).trans (d.trans hlen), Nat.zero_le _, by omega, a, fun x hx => hpb x (c x hx), by omega⟩
theorem an_sync (h : An w w1 ps pd n k) : CallF Try.prog 21 #[ptr ps] w1 fun r w' => An w w' ps pd n k := by
  obtain ⟨bb, lv, tv, D, gen, life, at', count, safe, tail, hF, hsk, hnew, hlen, hll, hat, htl, htb, hc⟩ := h
  refine (ssync_c hsk).use ?_
  rintro _ w2 ⟨rfl, hsk2, hF2⟩
  exact ⟨bb, .slice none 0 0, tv, _, gen, life, at', count, count, tail, hF.trans hF2 (fun i hi => .inr (hnew i (skX_mem.2 (by simp at hi; rcases hi with h | h <;> simp [h])))), hsk2, fun i hi => hnew i (skX_mem.2 (by
      rcases skX_mem.1 hi with e | e | e | e | e
      · simp [e]
      · simp [e]
      · simp [e]
      · simp [fp_nil] at e
      · simp [e])), hlen, Nat.zero_le _, hat, htl, htb, hc⟩
theorem an_reopen (h : An w w1 ps pd n k) (hn : 1 ≤ n ∧ n ≤ 65536) : CallF Try.prog 18 #[ptr pd] w1 fun r w' => An w w' ps pd n k := by
  obtain ⟨bb, lv, tv, D, gen, life, at', count, safe, tail, hF, hsk, hnew, hlen, hll, hat, htl, htb, hc⟩ := h
  refine (open_c hsk.dk (by unfold halfN; omega)).use ?_
  rintro r w2 ⟨ps2, tv2, sv2, lv2, G2, rfl, hsk2, hsn2, hls2, hF2, _⟩
  have h2 := hsk.redisk hsk2.dk (hF2.mono (fun i hi => .inl (by simp at hi; simp [hi]))) (by simp [fp_nil])
  exact ⟨bb, .slice none 0 0, tv, _, gen, life, at', count, safe, tail, hF.trans hF2 (fun i hi => .inr (hnew i (skX_mem.2 (by simp at hi; simp [hi])))), h2, fun i hi => hnew i (skX_mem.2 (by
      rcases skX_mem.1 hi with e | e | e | e | e
      · simp [e]
      · simp [e]
      · simp [e]
      · simp [fp_nil] at e
      · simp [e])), hlen, Nat.zero_le _, hat, htl, htb, hc⟩
theorem an_open {bb : Nat} {lv : Value} {D : Dsk} (hd : Dk w1 pd bb lv D) (hF : Fr [] w w1) (h1 : w.heap.size ≤ pd) (h2 : w.heap.size ≤ bb) (hlen : D.B.length = n) (hn : 1 ≤ n ∧ n ≤ 65536) :
    CallF Try.prog 18 #[ptr pd] w1 fun r w' => ∃ ps wh sv lv2 G m vs, r = .tuple #[ptr ps, .agg #[.bool wh, sv, lv2], .int .i64 0] ∧ Own w' 5 1 sv m vs ∧ (∃ l, (sOwn.list (by decide)).rd w' [lv2] l G) ∧ An w w' ps pd n 0 := by
  refine (open_c hd (by unfold halfN; omega)).use ?_
  rintro r w2 ⟨ps2, tv2, sv2, lv2, G2, rfl, hsk2, hsn2, hls2, hF2, n1, n2, _⟩
  obtain ⟨a, b, c, d⟩ := openF_small hd.all (by omega)
  have hs := hF.size
  refine ⟨ps2, _, sv2, lv2, G2, _, _, rfl, hsn2, ⟨_, hls2⟩, bb, .slice none 0 0, tv2, _, _, _, _, _, _, _, hF.trans hF2 (fun i hi => .inr (by simp at hi; omega)), hsk2, ?_, hlen, Nat.zero_le _, by omega, b, c, by omega⟩
  intro i hm
  rcases skX_mem.1 hm with e | e | e | e | e
  · omega
  · omega
  · omega
  · simp [fp_nil] at e
  · have := n2 i e; omega
theorem An.frn (h : An w w1 ps pd n k) : Fr [] w w1 := by obtain ⟨bb, lv, tv, D, gen, life, at', count, safe, tail, hF, _⟩ := h; exact hF
theorem An.fresh (h : An w w1 ps pd n k) {w2 : World} (f : Fr [] w1 w2) : An w w2 ps pd n k := by
  obtain ⟨bb, lv, tv, D, gen, life, at', count, safe, tail, hF, hsk, hnew, hlen, hll, hat, htl, htb, hc⟩ := h
  exact ⟨bb, lv, tv, D, gen, life, at', count, safe, tail, hF.t f, hsk.fresh f, hnew, hlen, hll, hat, htl, htb, hc⟩
theorem an_len (h : An w w1 ps pd n k) : CallF Try.prog 22 #[ptr ps] w1 fun r w' => (∃ c : Nat, r = .int .i64 c) ∧ w' = w1 := by
  obtain ⟨bb, lv, tv, D, gen, life, at', count, safe, tail, hF, hsk, _⟩ := h
  refine (slen_c hsk).use ?_
  rintro _ w2 ⟨rfl, rfl⟩
  exact ⟨⟨_, rfl⟩, rfl⟩
theorem an_safe (h : An w w1 ps pd n k) : CallF Try.prog 23 #[ptr ps] w1 fun r w' => (∃ c : Nat, r = .int .i64 c) ∧ w' = w1 := by
  obtain ⟨bb, lv, tv, D, gen, life, at', count, safe, tail, hF, hsk, _⟩ := h
  refine (ssafe_c hsk).use ?_
  rintro _ w2 ⟨rfl, rfl⟩
  exact ⟨⟨_, rfl⟩, rfl⟩
end
theorem any_c {w : World} {n : Int} {y z x : Value} {wh : List Int} {what : List (List Nat)} {p F F1 F2 : List Nat} (hy : aInts.rd w [y] wh F) (hz : aLists.rd w [z] what F1) (hx : aBytes.rd w [x] p F2) (hw : what.length ≤ 1000000000) :
    CallF Try.prog 3 #[.int .i64 n, y, z, x] w fun r w' => r = .bool true ∧ Fr [] w w' := by
  refine C_furlonglaw15_StoreAny_link ?_
  unfold C_furlonglaw15_StoreAny
  refine awake_c.use ?_
  rintro _ w1 ⟨rfl, hF1⟩
  refine notB (if_f rfl ?_)
  obtain ⟨cl, Gl, hcapl, hsll, hrows, _⟩ := list_open (aLists.fr hz hF1 (fun i _ => by simp))
  obtain ⟨ck, Gk, hcapk, hslk, hrowk, _⟩ := list_open (aInts.fr hy hF1 (fun i _ => by simp))
  obtain ⟨rfl, rfl, _⟩ := rows_ints.1 hrowk
  obtain ⟨x', Fx, ex, hsx, hxb⟩ := of_aBytes (aBytes.fr hx hF1 (fun i _ => by simp))
  obtain rfl := (List.cons.inj ex).1
  obtain ⟨hxs, _⟩ := sSl_sl hsx
  refine max2 (min2 (add64 (by constructor <;> (repeat' split) <;> omega) ?_))
  obtain ⟨nn, hnn, hn1⟩ : ∃ nn : Nat, (1 : Int) + (if (600 : Int) < (if (0 : Int) > n then 0 else n) then 600 else (if (0 : Int) > n then 0 else n)) = (nn : Int) ∧ 1 ≤ nn ∧ nn ≤ 601 := by
    refine ⟨((1 : Int) + (if (600 : Int) < (if (0 : Int) > n then 0 else n) then 600 else (if (0 : Int) > n then 0 else n))).toNat, ?_, ?_⟩
    all_goals (repeat' split) <;> omega
  rw [hnn]
  refine (dnew_c (n := nn) (by omega) (by omega)).use ?_
  rintro r w2 ⟨pd, bb, rfl, hd2, hF2, hpd, hbb⟩
  refine ext0 (ext1 ?_)
  refine neq (gdT (by simp [isB]) rfl (gdT (by simp [isB]) (hxs.lenV rfl) (gdT (by simp [isB]) (gtr rfl) (pick_f (by simp) (if_p (fun _ => eql ⟨rfl, hF1.t hF2⟩) (fun hpl => ?_))))))
  refine hsll.lenV ?_
  refine ⟨fun m t w' => ∃ j : Nat, j + m = what.length ∧ t = .int .i64 j ∧ Fr [] w1 w' ∧ ∃ lv D, Dk w' pd bb lv D ∧ D.B.length = nn ∧ D.L.length ≤ min j 300 ∧ (∀ i ∈ fp lv, w1.heap.size ≤ i), what.length, ⟨0, by omega, rfl, hF2, _, _, hd2, List.length_replicate, Nat.zero_le _, by simp [fp_nil]⟩, ?_⟩
  rintro m t w3 ⟨j, hj, rfl, hF3, lv, D, hd3, hDl, hLl, hlv⟩
  refine lss (if_p (fun hlt => ?_) (fun _ => ?_))
  · have hjl : j < what.length := by omega
    obtain ⟨Gj, hrd, _⟩ := rows_get aBytes hrows j hjl
    obtain ⟨pv, Fp, hcs, hpv, hpb⟩ := of_aBytes hrd
    have he : cl[j]? = some pv := by
      have hs : aBytes.size = 1 := rfl
      rw [hs, Nat.mul_one] at hcs
      have := congrArg (fun l : List Value => l[0]?) hcs
      simpa [List.getElem?_take, List.getElem?_drop] using this
    obtain ⟨hps, _⟩ := sSl_sl hpv
    refine ix1 (hsll.fr hF3 (fun i _ => by simp)) hjl he (hslk.lenV (lss ?_))
    have hJ : ∀ b : Bool, (b = true → j < wh.length ∧ j < 300) → ∃ J_31 : World → Prop,
      (∀ w_32, J_31 w_32 → (
       Bin Try.prog (At w_32) .add 3 false true (.int .i64 j) (.int .i64 1) fun t57_33 =>
       ∃ m_34, m_34 < m ∧ ∃ j : Nat, j + m_34 = what.length ∧ t57_33 = .int .i64 j ∧ Fr [] w1 w_32 ∧ ∃ lv D, Dk w_32 pd bb lv D ∧ D.B.length = nn ∧ D.L.length ≤ min j 300 ∧ (∀ i ∈ fp lv, w1.heap.size ≤ i))) ∧
      If (.bool b) (
       IAdS 1 y (.int .i64 j) fun t53_35 =>
       LdC (At w3) t53_35 fun t54_36 =>
       CallF Try.prog 17 #[ptr pd, t54_36, pv] w3 fun t56_37 w_38 =>
       J_31 w_38) (
       J_31 w3) := by
      intro b hb
      refine ⟨fun w' => Fr [] w1 w' ∧ ∃ lv D, Dk w' pd bb lv D ∧ D.B.length = nn ∧ D.L.length ≤ min (j + 1) 300 ∧ (∀ i ∈ fp lv, w1.heap.size ≤ i), ?_, if_b (fun hb1 => ?_) (fun _ => ⟨hF3, lv, D, hd3, hDl, by omega, hlv⟩)⟩
      · rintro w4 ⟨hF4, rest⟩
        exact add64 (by omega) ⟨m - 1, by omega, j + 1, by omega, by congr 1, hF4, rest⟩
      · obtain ⟨hkl, h300⟩ := hb hb1
        have hek : (wh.map (Value.int .i64))[j]? = some (.int .i64 wh[j]) := by
          rw [List.getElem?_map, List.getElem?_eq_getElem hkl]; rfl
        refine ix1 (hslk.fr hF3 (fun i _ => by simp)) hkl hek ?_
        refine (dwrite_any hd3 wh[j] (hps.fr hF3 (fun i _ => by simp)) hpb (by omega)).use ?_
        rintro _ w4 ⟨lv', D', hd4, hl4, hL4, hF4, hs4⟩
        have hs := hF3.size
        refine ⟨hF3.trans hF4 (fun i hi => .inr ?_), lv', D', hd4, hl4.trans hDl, by omega, fun i hi => (hs4 i hi).elim (hlv i) (fun _ => by omega)⟩
        simp only [List.mem_cons] at hi
        rcases hi with e | e | e
        · omega
        · omega
        · exact hlv i e
    by_cases hk : j < wh.length
    · refine gdT (by simp [isB]; omega) rfl (gdT (by simp [isB]; omega) (lss rfl) (pick_t (by simp; omega) (hJ _ (fun h => ⟨hk, by have := of_decide_eq_true h; omega⟩))))
    · refine gdF (by simp [isB]; omega) (gdF (by simp [isB]; omega) (pick_f (by simp; omega) (hJ false (fun h => by cases h))))
  refine (an_open hd3 hF3 hpd hbb hDl (by omega)).use ?_
  rintro r w4 ⟨ps, whh, sv, lv2, G, mm, vs, rfl, hsn, ⟨ll, hls⟩, h4⟩
  refine ext0 (ext1 (ext2 ?_))
  refine alloc_n (n := 3) (by kernel_rfl) ?_
  intro b5 w5 l5 hl5 hb5 hB5 hF5 _
  refine store_all (vs := [.bool whh, sv, lv2]) hB5 und44 hl5 rfl (by omega) (found_one (s := []) hsn hls) ?_
  intro w6 hB6 hF6 _
  have h6 := h4.fresh (hF5.trans hF6 (fun i hi => .inr (by simp at hi; omega)))
  refine neq (gdT (by simp [isB]) rfl (gdT (by simp [isB]) (ptr_eql und31 rfl) (pick_f (by simp) (if_f (by simp) ?_))))
  refine (an_append h6 (by omega) (by omega) hsx hxb).use ?_
  intro _ w7 h7
  refine (an_check h7 (by omega) (by omega) hsx hxb).use ?_
  intro _ w8 h8
  refine (an_append h8 (by omega) (by omega) hsx hxb).use ?_
  intro _ w9 h9
  refine (an_sync h9).use ?_
  intro _ w10 h10
  refine (an_reopen h10 (by omega)).use ?_
  intro _ w11 h11
  refine (an_len h11).use ?_
  rintro _ w12 ⟨⟨c, rfl⟩, e12⟩
  rw [e12]
  refine geq (gdT (by simp [isB]; try omega) rfl (gT (by simp [isB]; try omega) ((an_safe h11).use ?_)))
  rintro _ w13 ⟨⟨c2, rfl⟩, e13⟩
  rw [e13]
  refine gdT (by simp [isB]; try omega) (geq rfl) (pick_t (by simp; try omega) ⟨by simp; try omega, hF1.t h11.frn⟩)
end Go.Proofs.Ytmlaconjeplhpaa
