/- Contracts of furlongref01.Twin, Bytes, Lists, and of package store's Append, Sync, Checkpoint, Len, Safe. -/
import Derived.Test.YtmlaconjeplhpaaStoreE
set_option linter.unusedVariables false
set_option linter.unusedSimpArgs false
set_option maxRecDepth 20000
namespace Go.Proofs.Ytmlaconjeplhpaa
open Go Go.Vc
open St (Dsk All64 Blk pad four put4 halfN base hb walk eldest rootF openF putF rootL)

/-- Bytes that are read. -/
def sSl : Shape (List Nat) where
  size := 1
  rd w cs l F := ∃ v, cs = [v] ∧ capOk v ∧ Sl w 1 v l.length (bytes l) ∧ F = (if l = [] then [] else fp v)
  len := by rintro w cs l F ⟨v, rfl, _⟩; rfl
  one := by rintro w cs l F ⟨v, rfl, _, h, _⟩ u hu; rw [List.mem_singleton.1 hu]; exact (sl_one h).1
  fr := by
    rintro w w' cs l F X ⟨v, rfl, hc, h, rfl⟩ f hx
    refine ⟨v, rfl, hc, h.fr1 f (fun h0 i hi => hx i ?_), rfl⟩
    rw [if_neg (by intro e; rw [e] at h0; simp at h0)]; exact hi
  lt := by
    rintro w cs l F ⟨v, rfl, hc, h, rfl⟩ i hi
    split at hi
    · simp at hi
    · rename_i hne
      obtain ⟨A, c, rfl, hl, hn, hcc⟩ := h
      cases A with
      | none => simp [fp_nil] at hi
      | some a =>
        simp [fp_some] at hi
        subst hi
        cases l with
        | nil => exact absurd rfl hne
        | cons x l =>
          have := hcc a rfl 0 _ (bytes_get (bs := x :: l) (i := 0) (by simp))
          have hlt := World.block_lt_of_cell? w _ this
          have hb : (a.add 0).block = a.block := by unfold Addr.add; split <;> rfl
          rwa [hb] at hlt
theorem own_sl {w : World} {v : Value} {l : List Nat} (h : Own w 5 1 v l.length (bytes l)) : ∃ F, sSl.rd w [v] l F ∧ ∀ i ∈ F, i ∈ fp v := ⟨_, ⟨v, rfl, h.cap, h.sl, rfl⟩, fun i hi => by split at hi <;> simp_all⟩
theorem rows_own {w : World} : ∀ {l : List (List Nat)} {cs : List Value} {F : List Nat}, sOwn.rows w l cs F → ∃ G, sSl.rows w l cs G ∧ ∀ i ∈ G, i ∈ F
  | [], cs, F, h => ⟨[], ⟨h.1, rfl⟩, by simp⟩
  | a :: l, cs, F, ⟨c1, c2, F1, F2, hc, hF, ⟨v, h1, h2, h3⟩, h4⟩ => by
    obtain ⟨G, hG, hs⟩ := rows_own h4
    obtain ⟨F', hr, hs'⟩ := own_sl h2
    subst h1
    refine ⟨F' ++ G, ⟨[v], c2, F', G, hc, rfl, hr, hG⟩, fun i hi => ?_⟩
    rw [hF]
    rcases List.mem_append.1 hi with h | h
    · exact List.mem_append.2 (.inl (by rw [h3]; exact hs' i h))
    · exact List.mem_append.2 (.inr (hs i h))
abbrev sLs : Shape (List (List Nat)) := sSl.list (by decide)
theorem own_ls {w : World} {v : Value} {l : List (List Nat)} {F : List Nat} (h : (sOwn.list (by decide)).rd w [v] l F) : ∃ G, sLs.rd w [v] l G ∧ ∀ i ∈ G, i ∈ F := by
  obtain ⟨x, cells, G, e, hcap, hsl, hrows, rfl⟩ := h
  obtain ⟨G', h1, h2⟩ := rows_own hrows
  refine ⟨_, ⟨x, cells, G', e, hcap, hsl, h1, rfl⟩, fun i hi => ?_⟩
  rcases List.mem_append.1 hi with h | h
  · exact List.mem_append.2 (.inl h)
  · exact List.mem_append.2 (.inr (h2 i h))
theorem list_open {α : Type} {S : Shape α} {hs : 0 < S.size} {w : World} {x : Value} {l : List α} {F : List Nat} (h : (S.list hs).rd w [x] l F) : ∃ cells G, capOk x ∧ Sl w S.size x l.length cells ∧ S.rows w l cells G ∧ (∀ i ∈ G, i ∈ F) ∧ F = (if l = [] then [] else fp x) ++ G := by
  obtain ⟨v, cells, G, e, hcap, hsl, hrows, rfl⟩ := h
  obtain rfl := (List.cons.inj e).1
  exact ⟨cells, G, hcap, hsl, hrows, fun i hi => by simp [hi], rfl⟩
theorem rows_take {α : Type} {S : Shape α} {w : World} : ∀ {l : List α} {cs : List Value} {F : List Nat} (n : Nat), S.rows w l cs F → ∃ G, S.rows w (l.take n) (cs.take (n * S.size)) G ∧ ∀ i ∈ G, i ∈ F
  | [], cs, F, n, h => ⟨[], by rw [h.1]; simp [Shape.rows], by simp⟩
  | a :: l, cs, F, 0, h => ⟨[], by simp [Shape.rows], by simp⟩
  | a :: l, cs, F, n + 1, ⟨c1, c2, F1, F2, hc, hF, h1, h2⟩ => by
    obtain ⟨G, hG, hs⟩ := rows_take n h2
    have hl := S.len h1
    refine ⟨F1 ++ G, ⟨c1, c2.take (n * S.size), F1, G, ?_, rfl, h1, hG⟩, fun i hi => ?_⟩
    · rw [hc, List.take_append, List.take_of_length_le (by rw [Nat.add_mul]; omega), hl, Nat.add_mul, Nat.one_mul, Nat.add_sub_cancel]
    · rw [hF]
      rcases List.mem_append.1 hi with h | h
      · exact List.mem_append.2 (.inl h)
      · exact List.mem_append.2 (.inr (hs i h))
theorem lit_new {w : World} {k : Value → World → Prop} {t e : TypeId} {z : Value} {bytes n : Nat} {vs : List Value} {parts : Array (Nat × Value)} (ht : Try.prog.underlying t = some (.slice e)) (hi : (Try.prog.info? e).map (fun i => (i.zero, i.size, i.bytes)) = some (some z, 1, bytes)) (hz : z.cells.toList.length = 1)
    (hp : parts = ((vs.zipIdx 0).map fun x => (x.2, x.1)).toArray) (hn : vs.length = n) (hle : n ≤ 1000000) (hv : ∀ v ∈ vs, v.cells = #[v]) (h : ∀ v w', New w w' e 1 v n vs → k v w') : Do Try.prog (Instr.buildSlice t n parts) w k := by
  refine lit' ht hi hz hp hn (by omega) hv ?_
  intro b w' hb hB hF hs
  refine h _ w' ⟨⟨by omega, .inr ⟨b, n, vs.toArray, rfl, Nat.zero_le _, hB, Nat.le_refl _, by unfold maxLen; omega, by simp [hn], by simp [← hn]⟩⟩, hF, fun i hi => by simp [fp_some] at hi; omega⟩
theorem twin_c {w : World} {x : Value} {l : List Nat} (hx : Sl w 1 x l.length (bytes l)) (hl : l.length ≤ 1000000000) : CallF Try.prog 24 #[x] w fun r w' => Row w w' r l := by
  refine C_furlongref01_Twin_link ?_
  unfold C_furlongref01_Twin
  refine lit_new (vs := []) Try.underlying24 infoB rfl rfl rfl (by omega) (by simp) ?_
  intro v w1 hN
  refine row_append (bs := []) hN (hx.fr hN.fr (fun i _ => by simp)) (by simp; omega) ?_
  intro v2 w2 hN2 _ _
  exact hN2
theorem bytes_c {w : World} {x y : Value} {a b : List Nat} (hx : Sl w 1 x a.length (bytes a)) (ha : ∀ c ∈ a, c < 256) (hy : Sl w 1 y b.length (bytes b)) (hb : ∀ c ∈ b, c < 256) :
    CallF Try.prog 25 #[x, y] w fun r w' => r = .bool (decide (a = b)) ∧ w' = w := by
  refine C_furlongref01_Bytes_link ?_
  unfold C_furlongref01_Bytes
  refine do_bytes_string Try.underlying24 Try.underlying5 Try.underlying9 hx ha ?_
  refine do_bytes_string Try.underlying24 Try.underlying5 Try.underlying9 hy hb ?_
  refine eq_str ⟨?_, rfl⟩
  congr 1
  exact decide_eq_decide.2 (strOf_inj ha hb)
theorem lists_c {w : World} {x y : Value} {a b : List (List Nat)} {F G : List Nat} (hx : sLs.rd w [x] a F) (hy : sLs.rd w [y] b G) (ha : ∀ p ∈ a, ∀ c ∈ p, c < 256) (hb : ∀ p ∈ b, ∀ c ∈ p, c < 256) (hl : a.length ≤ 1000000000 ∧ b.length ≤ 1000000000) :
    CallF Try.prog 32 #[x, y] w fun r w' => r = .bool (decide (a = b)) ∧ Fr [] w w' := by
  obtain ⟨cx, Gx, _, hsx, hrx, _⟩ := list_open hx
  obtain ⟨cy, Gy, _, hsy, hry, _⟩ := list_open hy
  refine C_furlongref01_Lists_link ?_
  unfold C_furlongref01_Lists
  refine hsx.lenV (hsy.lenV (neq (if_p (fun h => ?_) (fun h => ?_))))
  · refine ⟨?_, Fr.refl _ _⟩
    congr 1; symm; rw [decide_eq_false_iff_not]; intro e; exact h (by rw [e])
  have hlen : a.length = b.length := by omega
  refine hsx.lenV ?_
  refine ⟨fun m t i w' => ∃ j : Nat, j + m = a.length ∧ i = .int .i64 j ∧ a.take j = b.take j ∧ Fr [] w w', a.length, ⟨0, by omega, rfl, by simp, Fr.refl _ _⟩, ?_⟩
  rintro m t i w1 ⟨j, hj, rfl, he, hf⟩
  refine lss (if_p (fun hlt => ?_) (fun hge => ?_))
  · have hja : j < a.length := by omega
    have hjb : j < b.length := by omega
    have hfd := hf.t (Fr.drew [] w1)
    have hxd : Sl (World.drew w1) 1 x a.length cx := hsx.fr hfd (fun i _ => by simp)
    have hyd : Sl (World.drew w1) 1 y b.length cy := hsy.fr hfd (fun i _ => by simp)
    obtain ⟨Ga, ⟨v1, e1, _, s1, _⟩, _⟩ := rows_get sSl (rows_fr sSl hfd hrx (fun i _ => by simp)) j hja
    obtain ⟨Gb, ⟨v2, e2, _, s2, _⟩, _⟩ := rows_get sSl (rows_fr sSl hfd hry (fun i _ => by simp)) j hjb
    have g : ∀ {cells : List Value} {v : Value}, (cells.drop (j * sSl.size)).take sSl.size = [v] → cells[j]? = some v := by
      intro cells v e
      have hs : sSl.size = 1 := rfl
      rw [hs, Nat.mul_one] at e
      have := congrArg (fun l : List Value => l[0]?) e
      simpa [List.getElem?_take, List.getElem?_drop] using this
    refine ⟨fun w' => Sl w' 1 x a.length cx ∧ Sl w' 1 y b.length cy, ⟨hxd, hyd⟩, ?_⟩
    refine ix1S (fun w' h => h.1) hxd hja (g e1) (ix1S (fun w' h => h.2) hyd hjb (g e2) ?_)
    refine (bytes_c s1 (ha _ (List.getElem_mem hja)) s2 (hb _ (List.getElem_mem hjb))).use ?_
    rintro _ w2 ⟨rfl, rfl⟩
    refine ⟨⟨hxd, hyd⟩, notB (if_b (fun h => ?_) (fun h => ?_))⟩
    · refine ⟨?_, hfd⟩
      have hne : a[j] ≠ b[j] := by simpa using h
      congr 1; symm; rw [decide_eq_false_iff_not]; intro e; subst e; exact hne rfl
    · have heq : a[j] = b[j] := by simpa using h
      refine add64 (by omega) ⟨m - 1, by omega, j + 1, by omega, by congr 1, ?_, hfd⟩
      rw [List.take_succ_eq_append_getElem hja, List.take_succ_eq_append_getElem hjb, he, heq]
  · refine ⟨?_, hf⟩
    rw [List.take_of_length_le (by omega), List.take_of_length_le (by omega)] at he
    congr 1; symm; rw [decide_eq_true_iff]; exact he
theorem und31 : Try.prog.underlying 31 = some (.pointer (Try.prog.pointee 31)) := by kernel_rfl
section
variable {w : World} {ps pd bb : Nat} {lv tv x : Value} {D : Dsk} {gen life at' count safe : Nat} {tail p : List Nat}
theorem slen_c (h : Sk w ps pd bb lv tv D gen life at' count safe tail) : CallF Try.prog 22 #[ptr ps] w fun r w' => r = .int .i64 count ∧ w' = w := by
  refine C_store_Store_Len_link ?_
  unfold C_store_Store_Len
  exact ptr_eql und31 (if_f rfl (nilC (fad (ldC_bk h.blk rfl ⟨rfl, rfl⟩))))
theorem ssafe_c (h : Sk w ps pd bb lv tv D gen life at' count safe tail) : CallF Try.prog 23 #[ptr ps] w fun r w' => r = .int .i64 safe ∧ w' = w := by
  refine C_store_Store_Safe_link ?_
  unfold C_store_Store_Safe
  exact ptr_eql und31 (if_f rfl (nilC (fad (ldC_bk h.blk rfl ⟨rfl, rfl⟩))))
theorem ssync_c (h : Sk w ps pd bb lv tv D gen life at' count safe tail) : CallF Try.prog 21 #[ptr ps] w fun r w' => r = .int .i64 0 ∧ Sk w' ps pd bb (.slice none 0 0) tv ⟨D.B, []⟩ gen life at' count count tail ∧ Fr [ps, pd] w w' := by
  refine C_store_Store_Sync_link ?_
  unfold C_store_Store_Sync
  refine ptr_eql und31 (if_f rfl (nilC (fad (ldC_bk h.blk rfl ((dsync_c h.dk).use ?_)))))
  rintro _ w1 ⟨rfl, hd1, hF1, hs1⟩
  have h1 : Sk w1 ps pd bb (.slice none 0 0) tv ⟨D.B, []⟩ gen life at' count safe tail := h.redisk hd1 (hF1.mono (fun i hi => .inl (by simp at hi; simp [hi]))) (by simp [fp_nil])
  refine nilC (fad (ldC_bk h1.blk rfl (nilC (fad (store' h1.blk (by kernel_rfl) (by simp) rfl ?_)))))
  intro w2 hB2 hF2 hs2
  exact ⟨rfl, h1.refield (by simpa using hB2) hF2, (hF1.mono (fun i hi => .inl (by simp at hi; simp [hi]))).trans hF2 (fun i hi => .inl (by simp at hi; simp [hi]))⟩
/-- What a call that writes leaves. -/
def Wrote (w : World) (ps pd bb : Nat) (lv tv : Value) (D D' : Dsk) (gen life at2 count safe : Nat) (t2 : List Nat) (w' : World) : Prop :=
  ∃ lv' tv', Sk w' ps pd bb lv' tv' D' gen life at2 count safe t2 ∧ Fr (skX ps pd bb lv tv) w w' ∧ (∀ i ∈ skX ps pd bb lv' tv', i ∈ skX ps pd bb lv tv ∨ w.heap.size ≤ i)
theorem sappend_c (h : Sk w ps pd bb lv tv D gen life at' count safe tail) (hx : Sl w 1 x p.length (bytes p)) (hpb : ∀ c ∈ p, c < 256) (htb : ∀ c ∈ tail, c < 256) (hat : at' ≤ 1000000) (htl : tail.length ≤ 1000) (hL : D.L.length ≤ 100000000) (hc : count ≤ 1000000000) :
    CallF Try.prog 19 #[ptr ps, x] w fun r w' =>
      (r = .int .i64 3 ∧ 65536 < p.length ∧ Fr [] w w') ∨
      (r = .int .i64 10 ∧ p.length ≤ 65536 ∧ halfN D.B * 55 < at' * 55 + tail.length + (p.length + 4) ∧ Fr [] w w') ∨
      (r = .int .i64 0 ∧ p.length ≤ 65536 ∧ at' * 55 + tail.length + (p.length + 4) ≤ halfN D.B * 55 ∧ ∃ D' at2 t2, putF gen life (base (halfN D.B) gen) ((tail ++ St.encRec p).length + 1) D at' (tail ++ St.encRec p) = (D', at2, t2) ∧
        D'.L.length ≤ D.L.length + 100000 ∧ Wrote w ps pd bb lv tv D D' gen life at2 (count + 1) safe t2 w') := by
  refine C_store_Store_Append_link ?_
  unfold C_store_Store_Append
  refine ptr_eql und31 (if_f rfl (hx.lenV (gtr (if_p (fun hgt => .inl ⟨rfl, by omega, Fr.refl _ _⟩) (fun hle => ?_)))))
  refine hx.lenV (add64 (by omega) ?_)
  rw [show (p.length : Int) + 4 = ((p.length + 4 : Nat) : Int) by omega]
  refine (fits_c h (p.length + 4) ⟨by omega, by omega⟩).use ?_
  rintro _ w1 ⟨rfl, hF1⟩
  refine notB (if_b (fun hn => ?_) (fun hn => ?_))
  · have : ¬ (((p.length + 4 : Nat) : Int) ≤ ((halfN D.B : Nat) - (at' : Int)) * 55 - tail.length) := by simpa using hn
    exact .inr (.inl ⟨rfl, by omega, by omega, hF1⟩)
  · have hfit : ((p.length + 4 : Nat) : Int) ≤ ((halfN D.B : Nat) - (at' : Int)) * 55 - tail.length := by simpa using hn
    refine hx.lenV (conv_u32 (by omega) ?_)
    refine (put_c (row_nil w1) p.length (by simp)).use ?_
    intro v2 w2 hN2
    rw [List.nil_append] at hN2
    have hF02 := hF1.t hN2.fr
    refine row_append hN2 (hx.fr hF02 (fun i _ => by simp)) (by simp only [St.put4_length]; omega) ?_
    intro v3 w3 hN3 _ _
    have hF03 := hF1.t hN3.fr
    have h3 := h.fresh hF03
    have hrec : put4 p.length ++ p = St.encRec p := rfl
    rw [hrec] at hN3
    have hel : (St.encRec p).length = 4 + p.length := by simp [St.encRec, put4]; omega
    refine (sput_c h3 hN3.own.sl (fun c hc => (List.mem_append.1 hc).elim (htb c) (St.encRec_lt hpb c)) hat (by rw [List.length_append]; omega) hL).use ?_
    rintro _ w4 ⟨rfl, lv4, tv4, D', at2, t2, hput, h4, hF4, hs4, hL4⟩
    refine nilC (fad (ldC_bk h4.blk rfl (add64 (by omega) (nilC (fad (store' h4.blk (by kernel_rfl) (by simp) rfl ?_))))))
    intro w5 hB5 hF5 hs5
    refine .inr (.inr ⟨rfl, by omega, by omega, D', at2, t2, hput, by rw [List.length_append] at hL4; omega, lv4, tv4, h4.refield (by simpa using hB5) hF5, ?_, fun i hi => (hs4 i hi).imp id (fun h => by have := hF03.size; omega)⟩)
    exact ((hF03.mono (fun i hi => by simp at hi)).trans hF4 (fun i hi => .inl hi)).trans hF5 (fun i hi => .inl (skX_mem.2 (by simp at hi; simp [hi])))
end
end Go.Proofs.Ytmlaconjeplhpaa
