/- A store on its disk, with what it holds, and what else must stand. awake, begin. -/
import Derived.Test.YtmlaconjeplhpaaStoreK
set_option linter.unusedVariables false
set_option linter.unusedSimpArgs false
set_option maxRecDepth 20000
namespace Go.Proofs.Ytmlaconjeplhpaa
open Go Go.Vc
open St (Dsk All64 Blk pad four put4 halfN base hb walk eldest rootF openF putF rootL SInv encAll encRec)

structure AwAt (w w' : World) (ps pd bb : Nat) (lv tv : Value) (D : Dsk) (gen life at' safe : Nat) (tail : List Nat) (whole : Bool) (snap : List Nat) (list : List (List Nat)) (bnd : Nat) (Y : List Nat) : Prop where
  fr : Fr [] w w'
  sk : Sk w' ps pd bb lv tv D gen life at' list.length safe tail
  inv : SInv D gen life at' tail whole snap list safe bnd
  new : ∀ i ∈ skX ps pd bb lv tv, w.heap.size ≤ i
  len : D.B.length = 1000
  ll : D.L.length ≤ bnd * 200000
  b : bnd ≤ 400
  cnt : list.length ≤ bnd
  dis : ∀ i ∈ skX ps pd bb lv tv, i ∉ Y
  ylt : ∀ i ∈ Y, i < w'.heap.size
def Aw (w w' : World) (ps pd : Nat) (safe : Nat) (whole : Bool) (snap : List Nat) (list : List (List Nat)) (bnd : Nat) (Y : List Nat) : Prop := ∃ bb lv tv D gen life at' tail, AwAt w w' ps pd bb lv tv D gen life at' safe tail whole snap list bnd Y
section
variable {w w1 : World} {ps pd safe bnd : Nat} {whole : Bool} {snap p : List Nat} {list : List (List Nat)} {Y : List Nat} {x : Value}
theorem Aw.frn (h : Aw w w1 ps pd safe whole snap list bnd Y) : Fr [] w w1 := by obtain ⟨bb, lv, tv, D, gen, life, at', tail, h⟩ := h; exact h.fr
theorem Aw.ylt' (h : Aw w w1 ps pd safe whole snap list bnd Y) : ∀ i ∈ Y, i < w1.heap.size := by obtain ⟨bb, lv, tv, D, gen, life, at', tail, h⟩ := h; exact h.ylt
/-- What was made since is not of the store. -/
theorem Aw.step (h : Aw w w1 ps pd safe whole snap list bnd Y) {w2 : World} {Y2 : List Nat} (f : Fr [] w1 w2) (hy : ∀ i ∈ Y2, i ∈ Y ∨ (w1.heap.size ≤ i ∧ i < w2.heap.size)) : Aw w w2 ps pd safe whole snap list bnd Y2 := by
  obtain ⟨bb, lv, tv, D, gen, life, at', tail, h⟩ := h
  have hlt := h.sk.lt
  have hs := f.size
  exact ⟨bb, lv, tv, D, gen, life, at', tail, { h with fr := h.fr.t f, sk := h.sk.fresh f, dis := fun i hi hm => (hy i hm).elim (h.dis i hi) (fun h' => by have := hlt i hi; omega), ylt := fun i hi => (hy i hi).elim (fun h' => by have := h.ylt i h'; omega) (fun h' => h'.2) }⟩
theorem Aw.touch (h : Aw w w1 ps pd safe whole snap list bnd Y) {w2 : World} {X : List Nat} (f : Fr X w1 w2) (hX : ∀ i ∈ X, i ∈ Y) (hw : ∀ i ∈ X, w.heap.size ≤ i) : Aw w w2 ps pd safe whole snap list bnd Y := by
  obtain ⟨bb, lv, tv, D, gen, life, at', tail, h⟩ := h
  have hs := f.size
  exact ⟨bb, lv, tv, D, gen, life, at', tail, { h with fr := h.fr.trans f (fun i hi => .inr (hw i hi)), sk := h.sk.fr f (fun i hi hm => h.dis i hi (hX i hm)), ylt := fun i hi => by have := h.ylt i hi; omega }⟩
theorem aw_append (h : Aw w w1 ps pd safe whole snap list bnd Y) (hb : bnd < 400) (hx : Sl w1 1 x p.length (bytes p)) (hpb : ∀ c ∈ p, c < 256) (hp : p.length ≤ 1000) (hr : took snap list ≤ 10000) :
    CallF Try.prog 19 #[ptr ps, x] w1 fun r w' => r = .int .i64 0 ∧ Aw w w' ps pd safe whole snap (list ++ [p]) (bnd + 1) Y ∧ ∃ X, Fr X w1 w' ∧ (∀ i ∈ X, i ∉ Y) ∧ (∀ i ∈ X, w.heap.size ≤ i) := by
  obtain ⟨bb, lv, tv, D, gen, life, at', tail, h⟩ := h
  obtain ⟨hat, hatl⟩ := sinv_at h.inv
  have hlen := h.len
  have hll := h.ll
  have hcnt := h.cnt
  have hhalf : halfN D.B = 499 := by unfold halfN; omega
  have h2 := enc_took list
  have h3 : (encAll list).length + snap.length ≤ took snap list := by unfold took; omega
  refine (sappend_c h.sk hx hpb h.inv.tl.2 (by omega) (by have := h.inv.tl.1; omega) (by omega) (by omega)).use ?_
  rintro r w2 (⟨rfl, hlong, hF1⟩ | ⟨rfl, hle, hfull, hF1⟩ | ⟨rfl, hle, hfit, D', at2, t2, hput, hL', lv', tv', hsk1, hF1, hsub⟩)
  · omega
  · omega
  · obtain ⟨D2, a2, u2, hput2, hinv2, hlen2⟩ := St.sinv_append h.inv hle hpb (by have : (encRec p).length = 4 + p.length := by { simp [encRec, put4]; omega }; omega)
    obtain ⟨rfl, e2⟩ := Prod.mk.inj (hput.symm.trans hput2)
    obtain ⟨rfl, rfl⟩ := Prod.mk.inj e2
    have hs := h.fr.size
    have hs1 := hF1.size
    refine ⟨rfl, ⟨bb, lv', tv', _, gen, life, _, _, { fr := h.fr.trans hF1 (fun i hi => .inr (h.new i hi)), sk := by rw [List.length_append]; exact hsk1, inv := SInv.mono hinv2 _ (by omega) (by omega), new := fun i hi => (hsub i hi).elim (h.new i) (fun _ => by omega), len := hlen2.trans h.len, ll := bnd_up (by omega), b := by omega, cnt := by rw [List.length_append]; simp; omega, dis := fun i hi hm => (hsub i hi).elim (fun h' => h.dis i h' hm) (fun h' => by have := h.ylt i hm; omega), ylt := fun i hi => by have := h.ylt i hi; omega }⟩, _, hF1, h.dis, h.new⟩
theorem aw_sync (h : Aw w w1 ps pd safe whole snap list bnd Y) :
    CallF Try.prog 21 #[ptr ps] w1 fun r w' => r = .int .i64 0 ∧ Aw w w' ps pd list.length whole snap list bnd Y ∧ ∃ X, Fr X w1 w' ∧ (∀ i ∈ X, i ∉ Y) ∧ (∀ i ∈ X, w.heap.size ≤ i) := by
  obtain ⟨bb, lv, tv, D, gen, life, at', tail, h⟩ := h
  refine (ssync_c h.sk).use ?_
  rintro _ w2 ⟨rfl, hsk2, hF2⟩
  have hF2' : Fr (skX ps pd bb lv tv) w1 w2 := hF2.mono (fun i hi => .inl (skX_mem.2 (by simp at hi; rcases hi with h | h <;> simp [h])))
  have hsub : ∀ i ∈ skX ps pd bb (.slice none 0 0) tv, i ∈ skX ps pd bb lv tv := fun i hm => skX_mem.2 (by
      rcases skX_mem.1 hm with e | e | e | e | e
      · simp [e]
      · simp [e]
      · simp [e]
      · simp [fp_nil] at e
      · simp [e])
  have hs1 := hF2.size
  exact ⟨rfl, ⟨bb, .slice none 0 0, tv, _, gen, life, at', tail, { fr := h.fr.trans hF2' (fun i hi => .inr (h.new i hi)), sk := hsk2, inv := St.sinv_sync h.inv, new := fun i hi => h.new i (hsub i hi), len := h.len, ll := Nat.zero_le _, b := h.b, cnt := h.cnt, dis := fun i hi => h.dis i (hsub i hi), ylt := fun i hi => by have := h.ylt i hi; omega }⟩, _, hF2', h.dis, h.new⟩
theorem aw_check (h : Aw w w1 ps pd safe whole snap list bnd Y) (hb : bnd < 400) (hx : Sl w1 1 x p.length (bytes p)) (hpb : ∀ c ∈ p, c < 256) (hp : p.length ≤ 1000) (hxd : 0 < p.length → ∀ i ∈ fp x, i ∈ Y) :
    CallF Try.prog 20 #[ptr ps, x] w1 fun r w' => r = .int .i64 0 ∧ Aw w w' ps pd 0 true p [] (bnd + 1) Y ∧ ∃ X, Fr X w1 w' ∧ (∀ i ∈ X, i ∉ Y) ∧ (∀ i ∈ X, w.heap.size ≤ i) := by
  obtain ⟨bb, lv, tv, D, gen, life, at', tail, h⟩ := h
  have hlen := h.len
  have hll := h.ll
  have hbn := h.inv.bnd
  have hhalf : halfN D.B = 499 := by unfold halfN; omega
  refine (schk_c h.sk hx hpb (by omega) (fun h0 i hi hm => h.dis i hm (hxd h0 i hi)) (by omega) (by omega)).use ?_
  rintro r w2 (⟨rfl, hlong, hF1⟩ | ⟨rfl, hle, hfull, hF1⟩ | ⟨rfl, hle, hfit, D', at2, t2, hput, lv', tv', hsk1, hF1, hsub⟩)
  · omega
  · omega
  · obtain ⟨D2, a2, u2, hput2, hlen2, hinv2⟩ := St.sinv_checkpoint h.inv (by omega) hle hpb hfit
    obtain ⟨rfl, e2⟩ := Prod.mk.inj (hput.symm.trans hput2)
    obtain ⟨rfl, rfl⟩ := Prod.mk.inj e2
    have hs := h.fr.size
    have hs1 := hF1.size
    have hw : ((Dsk.mk D'.B []).write ((gen + 1) % 2) (pad (rootL (gen + 1) p.length))).B.length = D'.B.length := by unfold Dsk.write; split <;> simp
    refine ⟨rfl, ⟨bb, lv', tv', _, gen + 1, life, _, _, { fr := h.fr.trans hF1 (fun i hi => .inr (h.new i hi)), sk := hsk1, inv := hinv2, new := fun i hi => (hsub i hi).elim (h.new i) (fun _ => by omega), len := hw.trans (hlen2.trans h.len), ll := Nat.zero_le _, b := by omega, cnt := Nat.zero_le _, dis := fun i hi hm => (hsub i hi).elim (fun h' => h.dis i h' hm) (fun h' => by have := h.ylt i hm; omega), ylt := fun i hi => by have := h.ylt i hi; omega }⟩, _, hF1, h.dis, h.new⟩
theorem aw_open (h : Aw w w1 ps pd safe whole snap list bnd Y) (hb : bnd < 400) :
    CallF Try.prog 18 #[ptr pd] w1 fun r w' => ∃ ps2 sv lv2 G, r = .tuple #[ptr ps2, .agg #[.bool whole, sv, lv2], .int .i64 0] ∧ Own w' 5 1 sv snap.length (bytes snap) ∧ (sOwn.list (by decide)).rd w' [lv2] list G ∧
      (∀ i ∈ fp sv, w1.heap.size ≤ i) ∧ (∀ i ∈ G, w1.heap.size ≤ i) ∧ (∀ i ∈ G, i ∉ fp sv) ∧ Aw w w' ps2 pd list.length whole snap list (bnd + 1) (fp sv ++ G ++ Y) ∧ ∃ X, Fr X w1 w' ∧ (∀ i ∈ X, i ∉ Y) ∧ (∀ i ∈ X, w.heap.size ≤ i) := by
  obtain ⟨bb, lv, tv, D, gen, life, at', tail, h⟩ := h
  have hlen := h.len
  obtain ⟨m, at2, tail2, hm1, hm2, hm3, hm4, hop, hinv2⟩ := St.sinv_crash h.inv (by have := h.b; omega) D.L.length
  obtain rfl := hm4 (Nat.le_refl _)
  rw [D.at_all, List.take_length] at hop hinv2
  refine (open_c h.sk.dk (.inl (by omega))).use ?_
  rintro r w2 ⟨ps2, tv2, sv2, lv2, G2, rfl, hsk2, hsn2, hls2, hF2, n1, n2, n3, n4, n5, n6, n7, n8⟩
  rw [hop] at hsk2 hsn2 hls2
  simp only [hop]
  have hs := h.fr.size
  have hs1 := hF2.size
  have hF2' : Fr (skX ps pd bb lv tv) w1 w2 := hF2.mono (fun i hi => .inl (skX_mem.2 (by simp at hi; simp [hi])))
  have l1 := hsn2.lt
  have l2 := (sOwn.list (by decide)).lt hls2
  obtain ⟨k1, k2, k3⟩ := h.sk.dk.lt
  refine ⟨ps2, sv2, lv2, G2, rfl, hsn2, hls2, n3, n4, n8, ⟨bb, .slice none 0 0, tv2, _, gen, _, at2, tail2, { fr := h.fr.trans hF2' (fun i hi => .inr (h.new i hi)), sk := hsk2, inv := hinv2, new := ?_, len := h.len, ll := Nat.zero_le _, b := by omega, cnt := by have := h.cnt; omega, dis := ?_, ylt := ?_ }⟩, _, hF2', h.dis, h.new⟩
  · intro i hm
    rcases skX_mem.1 hm with e | e | e | e | e
    · omega
    · exact h.new i (skX_mem.2 (by simp [e]))
    · exact h.new i (skX_mem.2 (by simp [e]))
    · simp [fp_nil] at e
    · have := n2 i e; omega
  · intro i hm hy
    rcases skX_mem.1 hm with e | e | e | e | e
    · subst e
      rcases List.mem_append.1 hy with hy | hy
      · rcases List.mem_append.1 hy with hy | hy
        · exact n5 hy
        · exact n6 hy
      · have := h.ylt _ hy; omega
    · subst e
      rcases List.mem_append.1 hy with hy | hy
      · rcases List.mem_append.1 hy with hy | hy
        · have := n3 _ hy; omega
        · have := n4 _ hy; omega
      · exact h.dis _ (skX_mem.2 (by simp)) hy
    · subst e
      rcases List.mem_append.1 hy with hy | hy
      · rcases List.mem_append.1 hy with hy | hy
        · have := n3 _ hy; omega
        · have := n4 _ hy; omega
      · exact h.dis _ (skX_mem.2 (by simp)) hy
    · simp [fp_nil] at e
    · rcases List.mem_append.1 hy with hy | hy
      · rcases List.mem_append.1 hy with hy | hy
        · exact (n7 i e).1 hy
        · exact (n7 i e).2 hy
      · have := h.ylt _ hy; have := n2 i e; omega
  · intro i hy
    rcases List.mem_append.1 hy with hy | hy
    · rcases List.mem_append.1 hy with hy | hy
      · exact l1 i hy
      · exact l2 i hy
    · have := h.ylt i hy; omega
/-- A store on a new disk. -/
theorem new_open {n pd bb : Nat} (hd : Dk w1 pd bb (.slice none 0 0) (newD n)) (hn : 4 ≤ n ∧ n ≤ 65536) :
    CallF Try.prog 18 #[ptr pd] w1 fun r w' => ∃ ps tv sv lv2 G life at' tail, r = .tuple #[ptr ps, .agg #[.bool false, sv, lv2], .int .i64 0] ∧ Sk w' ps pd bb (.slice none 0 0) tv (newD n) 1 life at' 0 0 tail ∧ SInv (newD n) 1 life at' tail false [] [] 0 1 ∧
      Own w' 5 1 sv 0 [] ∧ (sOwn.list (by decide)).rd w' [lv2] [] G ∧ Fr [pd] w1 w' ∧ w1.heap.size ≤ ps ∧ (∀ i ∈ fp tv, w1.heap.size ≤ i) := by
  obtain ⟨at', tail, hop, hinv⟩ := St.sinv_new (n := n) (bnd := 1) hn (by omega)
  have hB : (newD n).B = List.replicate n (List.replicate 64 0) := rfl
  refine (open_c hd (.inl (by rw [hB, List.length_replicate]; omega))).use ?_
  rintro r w2 ⟨ps2, tv2, sv2, lv2, G2, rfl, hsk2, hsn2, hls2, hF2, n1, n2, n3, n4, n5, n6, n7, n8⟩
  rw [hB, hop] at hsk2 hsn2 hls2
  simp only [hB, hop]
  exact ⟨ps2, tv2, sv2, lv2, G2, _, at', tail, rfl, hsk2, hinv, hsn2, hls2, hF2, n1, n2⟩
theorem aw_new {pd bb : Nat} (hd : Dk w1 pd bb (.slice none 0 0) (newD 1000)) (hF : Fr [] w w1) (hp : w.heap.size ≤ pd) (hbb : w.heap.size ≤ bb) :
    CallF Try.prog 18 #[ptr pd] w1 fun r w' => ∃ ps sv lv2 G, r = .tuple #[ptr ps, .agg #[.bool false, sv, lv2], .int .i64 0] ∧ Own w' 5 1 sv 0 [] ∧ (sOwn.list (by decide)).rd w' [lv2] [] G ∧ Aw w w' ps pd 0 false [] [] 1 [] := by
  refine (new_open hd (by omega)).use ?_
  rintro r w2 ⟨ps, tv, sv, lv2, G, life, at', tail, rfl, hsk, hinv, hsn, hls, hF2, n1, n2⟩
  have hs := hF.size
  refine ⟨ps, sv, lv2, G, rfl, hsn, hls, bb, .slice none 0 0, tv, _, 1, life, at', tail, { fr := hF.trans hF2 (fun i hi => .inr (by simp at hi; omega)), sk := hsk, inv := hinv, new := ?_, len := List.length_replicate, ll := Nat.zero_le _, b := by omega, cnt := Nat.zero_le _, dis := fun i hi hm => (by cases hm), ylt := fun i hm => (by cases hm) }⟩
  intro i hm
  rcases skX_mem.1 hm with e | e | e | e | e
  · omega
  · omega
  · omega
  · simp [fp_nil] at e
  · have := n2 i e; omega
end
theorem found_one {w : World} {b : Bool} {sv lv : Value} {l : List (List Nat)} {s : List Nat} {n : Nat} {G : List Nat} {vs : List Value} (h1 : Own w 5 1 sv n vs) (h2 : (sOwn.list (by decide)).rd w [lv] l G) : ∀ v ∈ [Value.bool b, sv, lv], v.oneCell' = true := by
  intro v hv
  simp at hv
  rcases hv with rfl | rfl | rfl
  · rfl
  · obtain ⟨A, c, rfl⟩ := h1.len; rfl
  · exact (sOwn.list (by decide)).one h2 _ (by simp)
theorem litB {w : World} {k : Value → World → Prop} {n : Nat} (h : ∀ b w', w.heap.size = b → Bk w' b 5 (bytes [n]) → Fr [] w w' → w'.heap.size = b + 1 → k (.slice (some ⟨b, 0, none⟩) 1 1) w') : Do Try.prog (Instr.buildSlice 24 1 #[(0, .int .u8 n)]) w k :=
  lit' (vs := bytes [n]) Try.underlying24 infoB rfl rfl rfl (by omega) (fun v hv => by obtain ⟨_, _, rfl⟩ := List.mem_map.1 hv; rfl) h
theorem ix1_ex {w : World} {n i : Nat} {κ : IntKind} {v u : Value} {cells : List Value} (hs : Sl w 1 v n cells) (hi : i < n) (hv : cells[i]? = some u) : ∃ a, IAdS 1 v (.int κ i) (fun x => x = .pointer (some a)) ∧ LdC (At w) (.pointer (some a)) (fun x => x = u) := by
  obtain ⟨A, c, rfl, hl, hn, hc⟩ := hs
  cases A with
  | none => have := (hn rfl).1; omega
  | some b =>
    refine ⟨b.add (i * 1), ⟨by omega, by omega, by simp⟩, u, fun w' e => ?_, rfl⟩
    rw [show w' = w from e, Nat.mul_one]
    exact hc b rfl i u hv
theorem awake_c {w : World} : CallF Try.prog 15 #[] w fun r w' => r = .bool true ∧ Fr [] w w' := by
  refine C_furlonglaw15_awake_link ?_
  unfold C_furlonglaw15_awake
  refine (dnew_c (n := 1000) (by omega) (by omega)).use ?_
  rintro r w1 ⟨pd, bb, rfl, hd1, hF1, hpd, hbb⟩
  refine ext0 (ext1 ?_)
  refine (aw_new hd1 hF1 hpd hbb).use ?_
  rintro r w2 ⟨ps, sv, lv2, G, rfl, hsn, hls, h2⟩
  refine ext0 (ext1 (ext2 ?_))
  refine alloc_n (n := 3) (by kernel_rfl) ?_
  intro b3 w3 l3 hl3 hb3 hB3 hF3 _
  refine store_all (vs := [.bool false, sv, lv2]) hB3 und44 hl3 rfl (by omega) (found_one (s := []) hsn hls) ?_
  intro w4 hB4 hF4 _
  have h4 := h2.step (hF3.trans hF4 (fun i hi => .inr (by simp at hi; omega))) (fun i hi => .inl hi)
  refine neq (gdT (by simp [isB]) rfl (gdT (by simp [isB]) (neq rfl) (pick_f (by simp) ?_)))
  refine gdT (by simp [isB]) rfl (gdT (by simp [isB]) (ptr_eql und31 rfl) (pick_f (by simp) ?_))
  refine gdT (by simp [isB]) (fad rfl) (gdT (by simp [isB]) (ldC_bk hB4 rfl rfl) (pick_f (by simp) ?_))
  refine gdT (by simp [isB]) rfl (gT (by simp [isB]) (litB ?_))
  intro b5 w5 hb5 hB5 hF5 hs5
  have h5 := h4.step hF5 (Y2 := [b5]) (fun i hi => .inr (by simp at hi; omega))
  refine gT (by simp [isB]) ((aw_append (p := [5]) h5 (by omega) (hB5.sl rfl 1) (by simp) (by simp) (by simp [took])).use ?_)
  rintro _ w6 ⟨rfl, h6, _⟩
  refine gdT (by simp [isB]) (neq rfl) (pick_f (by simp) (gdT (by simp [isB]) rfl ?_))
  refine gT (by simp [isB]) ((aw_sync h6).use ?_)
  rintro _ w7 ⟨rfl, h7, _⟩
  refine gdT (by simp [isB]) (neq rfl) (pick_f (by simp) (gdT (by simp [isB]) rfl ?_))
  refine gT (by simp [isB]) (litB ?_)
  intro b8 w8 hb8 hB8 hF8 hs8
  have h8 := h7.step hF8 (Y2 := [b8]) (fun i hi => .inr (by simp at hi; omega))
  refine gT (by simp [isB]) ((aw_check (p := [7]) h8 (by omega) (hB8.sl rfl 1) (by simp) (by simp) (fun _ i hi => by simpa [fp_some] using hi)).use ?_)
  rintro _ w9 ⟨rfl, h9, _⟩
  refine gdT (by simp [isB]) (neq rfl) (pick_f (by simp) (gdT (by simp [isB]) rfl ?_))
  refine gT (by simp [isB]) (litB ?_)
  intro b10 w10 hb10 hB10 hF10 hs10
  have h10 := h9.step hF10 (Y2 := [b10]) (fun i hi => .inr (by simp at hi; omega))
  refine gT (by simp [isB]) ((aw_append (p := [6]) h10 (by omega) (hB10.sl rfl 1) (by simp) (by simp) (by simp [took])).use ?_)
  rintro _ w11 ⟨rfl, h11, _⟩
  refine gdT (by simp [isB]) (neq rfl) (pick_f (by simp) (gdT (by simp [isB]) rfl ?_))
  refine gT (by simp [isB]) ((aw_sync h11).use ?_)
  rintro _ w12 ⟨rfl, h12, _⟩
  refine gdT (by simp [isB]) (neq rfl) (pick_f (by simp) (if_f (by simp) ?_))
  refine (aw_open h12 (by omega)).use ?_
  rintro r w13 ⟨ps2, sv2, lv3, G2, rfl, hsn2, hls2, m1, m2, m3, h13, _⟩
  refine ext0 (ext1 (ext2 ?_))
  refine alloc_n (n := 3) (by kernel_rfl) ?_
  intro b14 w14 l14 hl14 hb14 hB14 hF14 _
  refine store_all (vs := [.bool true, sv2, lv3]) hB14 und44 hl14 rfl (by omega) (found_one (s := []) hsn2 hls2) ?_
  intro w15 hB15 hF15 _
  have hF1315 : Fr [] w13 w15 := hF14.trans hF15 (fun i hi => .inr (by simp at hi; omega))
  have hF015 : Fr [] w w15 := h13.frn.t hF1315
  refine eql (gdT (by simp [isB]) (fad rfl) (gdT (by simp [isB]) (ldC_bk hB15 rfl rfl) (pick_t (by simp) ?_)))
  refine gdT (by simp [isB]) (fad rfl) (gdT (by simp [isB]) (ldC_bk hB15 rfl rfl) ?_)
  refine gT (by simp [isB]) (litB ?_)
  intro b16 w16 hb16 hB16 hF16 hs16
  refine gT (by simp [isB]) ((bytes_c (a := [7]) (b := [7]) ((hsn2.sl.fr hF1315 (fun i _ => by simp)).fr hF16 (fun i _ => by simp)) (by simp) (hB16.sl rfl 1) (by simp)).use ?_)
  rintro _ w17 ⟨rfl, hw17⟩
  rw [hw17]
  have hB16' := hB15.fr hF16 (by simp)
  refine pick_t (by simp) ?_
  have hls16 := (sOwn.list (by decide)).fr ((sOwn.list (by decide)).fr hls2 hF1315 (fun i _ => by simp)) hF16 (fun i _ => by simp)
  obtain ⟨cells, Gc, hcap, hsl, hrows, _⟩ := list_open hls16
  refine gdT (by simp [isB]) (fad rfl) (gdT (by simp [isB]) (ldC_bk hB16' rfl rfl) (gdT (by simp [isB]) (hsl.lenV rfl) (gdT (by simp [isB]) (eql rfl) (pick_t (by simp) ?_))))
  obtain ⟨Ga, ⟨v1, e1, s1, _⟩, _⟩ := rows_get sOwn hrows 0 (by simp)
  have he : cells[0]? = some v1 := by
    have hs : sOwn.size = 1 := rfl
    rw [hs] at e1
    have := congrArg (fun l : List Value => l[0]?) e1
    simpa [List.getElem?_take, List.getElem?_drop] using this
  obtain ⟨a1, ha1, ha2⟩ := ix1_ex (κ := .i64) hsl (i := 0) (by simp) he
  refine gdT (by simp [isB]) (fad rfl) (gdT (by simp [isB]) (ldC_bk hB16' rfl rfl) (gdT (by simp [isB]) ha1 (gdT (by simp [isB]) ha2 ?_)))
  refine gT (by simp [isB]) (litB ?_)
  intro b18 w18 hb18 hB18 hF18 hs18
  refine gT (by simp [isB]) ((bytes_c (a := [6]) (b := [6]) (s1.sl.fr hF18 (fun i _ => by simp)) (by simp) (hB18.sl rfl 1) (by simp)).use ?_)
  rintro _ w19 ⟨rfl, hw19⟩
  rw [hw19]
  exact pick_t (by simp) ⟨by simp, (hF015.t hF16).t hF18⟩
end Go.Proofs.Ytmlaconjeplhpaa
