/- The law StoreNil, for bytes that stand in memory. -/
import Derived.Test.YtmlaconjeplhpaaStoreT
set_option linter.unusedVariables false
set_option linter.unusedSimpArgs false
set_option maxRecDepth 20000
namespace Go.Proofs.Ytmlaconjeplhpaa
open Go Go.Vc

theorem sl_cells {w w' : World} {v : Value} {n : Nat} {cs : List Value} (h : Sl w 1 v n cs) (hc : ∀ a s, w.cell? a = some s → (∀ κ z, s ≠ .int κ z) → w'.cell? a = some s) (hni : ∀ s ∈ cs, ∀ κ z, s ≠ .int κ z) : Sl w' 1 v n cs := by
  obtain ⟨A, c, rfl, hl, hn, hcc⟩ := h
  exact ⟨A, c, rfl, hl, hn, fun a ha j u hj => hc _ _ (hcc a ha j u hj) (hni u (List.mem_of_getElem? hj))⟩
theorem nil_c {w : World} {x : Value} {p F : List Nat} (hx : aBytes.rd w [x] p F) :
    CallF Try.prog 4 #[x] w fun r w' => r = .bool true ∧ Fr [] w w' := by
  obtain ⟨x', Fx, ex, hsx, hxb⟩ := of_aBytes hx
  obtain rfl := (List.cons.inj ex).1
  obtain ⟨hxs, _⟩ := sSl_sl hsx
  refine C_furlonglaw15_StoreNil_link ?_
  unfold C_furlonglaw15_StoreNil
  refine awake_c.use ?_
  rintro _ w1 ⟨rfl, hF1⟩
  refine notB (if_f rfl ?_)
  refine open_nil.use ?_
  rintro _ w2 ⟨rfl, hF2⟩
  refine ext0 (ext1 (ext2 ?_))
  refine alloc_n (n := 3) (by kernel_rfl) ?_
  intro b3 w3 l3 hl3 hb3 hB3 hF3 _
  refine store_all (n := 3) (vs := [.bool false, .slice none 0 0, .slice none 0 0]) hB3 (by kernel_rfl) hl3 rfl (by omega) (by simp [Value.oneCell']) ?_
  intro w4 hB4 hF4 _
  have hF04 : Fr [] w w4 := (hF1.t hF2).t (hF3.trans hF4 (fun i hi => .inr (by simp at hi; omega)))
  refine neq (gdT (by simp [isB]) (fad rfl) (gdT (by simp [isB]) (ldC_bk hB4 rfl rfl) (gdT (by simp [isB]) (len rfl) (gdT (by simp [isB]) (neq rfl) (pick_f (by simp) ?_)))))
  refine gdT (by simp [isB]) rfl (gdT (by simp [isB]) rfl (gT (by simp [isB]) (nil_append.use ?_)))
  rintro _ w5 ⟨rfl, e5⟩
  rw [e5]
  refine gdT (by simp [isB]) (neq rfl) (pick_f (by simp) (gdT (by simp [isB]) rfl (gT (by simp [isB]) (nil_sync.use ?_))))
  rintro _ w6 ⟨rfl, e6⟩
  rw [e6]
  refine gdT (by simp [isB]) (neq rfl) (pick_f (by simp) (gdT (by simp [isB]) rfl (gdT (by simp [isB]) rfl (gT (by simp [isB]) (nil_check.use ?_)))))
  rintro _ w7 ⟨rfl, e7⟩
  rw [e7]
  refine gdT (by simp [isB]) (neq rfl) (pick_f (by simp) (gdT (by simp [isB]) rfl (gT (by simp [isB]) (nil_len.use ?_))))
  rintro _ w8 ⟨rfl, e8⟩
  rw [e8]
  refine gdT (by simp [isB]) (neq rfl) (pick_f (by simp) (gdT (by simp [isB]) rfl (gT (by simp [isB]) (nil_safe.use ?_))))
  rintro _ w9 ⟨rfl, e9⟩
  rw [e9]
  refine gdT (by simp [isB]) (neq rfl) (pick_f (by simp) (if_f (by simp) ?_))
  refine hxs.lenV (gtr (if_p (fun _ => ⟨rfl, hF04⟩) (fun hle => ?_)))
  -- a store, a copy of the bytes
  refine (dnew_c (n := 1000) (by omega) (by omega)).use ?_
  rintro r w10 ⟨pd, bb, rfl, hd10, hF10, hpd, hbb⟩
  refine ext0 (ext1 ?_)
  refine (aw_new hd10 hF10 hpd hbb).use ?_
  rintro r w11 ⟨ps, sv, lv2, G, rfl, hsn, hls, h11⟩
  refine ext0 (ext1 (ext2 ?_))
  refine alloc_n (n := 3) (by kernel_rfl) ?_
  intro b12 w12 l12 hl12 hb12 hB12 hF12 _
  refine store_all (vs := [.bool false, sv, lv2]) hB12 und44 hl12 rfl (by omega) (found_one (s := []) hsn hls) ?_
  intro w13 hB13 hF13 _
  have h13 := h11.step (hF12.trans hF13 (fun i hi => .inr (by simp at hi; omega))) (fun i hi => .inl hi)
  have hF413 := h13.frn
  refine (twin_c (hxs.fr (hF04.t hF413) (fun i _ => by simp)) (by omega)).use ?_
  intro q w14 hN14
  have h14 := h13.step (Y2 := fp q) hN14.fr (fun i hi => .inr ⟨hN14.new i hi, hN14.own.lt i hi⟩)
  have hq4 : ∀ i ∈ fp q, w4.heap.size ≤ i := fun i hi => by have := hN14.new i hi; have := hF413.size; omega
  refine neq (gdT (by simp [isB]) rfl (gdT (by simp [isB]) rfl ?_))
  refine gT (by simp [isB]) ((aw_check h14 (by omega) hN14.own.sl hxb (by omega) (fun _ i hi => hi)).use ?_)
  rintro _ w15 ⟨rfl, h15, X15, hX15, hd15, _⟩
  have hq15 := hN14.own.fr hX15 (fun i hi hm => hd15 i hm hi)
  refine gdT (by simp [isB]) (neq rfl) (pick_f (by simp) (gdT (by simp [isB]) rfl (gdT (by simp [isB]) rfl ?_)))
  refine gT (by simp [isB]) ((aw_append h15 (by omega) hq15.sl hxb (by omega) (by simp [took]; omega)).use ?_)
  rintro _ w16 ⟨rfl, h16, X16, hX16, hd16, _⟩
  have hq16 := hq15.fr hX16 (fun i hi hm => hd16 i hm hi)
  refine gdT (by simp [isB]) (neq rfl) (pick_f (by simp) (if_f (by simp) (hq16.sl.lenV ?_)))
  refine ⟨fun m t w' => ∃ j vs, j + m = p.length ∧ t = .int .i64 (j : Nat) ∧ Own w' 5 1 q p.length vs ∧ (∀ u ∈ vs, ∃ z, u = Value.int .u8 z) ∧ Aw w4 w' ps pd 0 true p ([] ++ [p]) 3 (fp q), p.length, ⟨0, _, by omega, rfl, hq16, bytes_ints p, h16⟩, ?_⟩
  rintro m t w17 ⟨j, vs, hj, rfl, hq17, hi17, h17⟩
  refine lss (if_p (fun hlt => ?_) (fun _ => ?_))
  · have hvl : vs.length = p.length := by have := hq17.1; omega
    have hjl : j < vs.length := by omega
    obtain ⟨z, hz⟩ := hi17 vs[j] (List.getElem_mem hjl)
    have hz' : vs[j]? = some (.int .u8 z) := by rw [List.getElem?_eq_getElem hjl, hz]
    refine ix1 hq17.sl (by omega) hz' ⟨rfl, ?_⟩
    refine own_set hq17 (by omega) hz' (by kernel_rfl) rfl ?_
    intro w18 hq18 hF18 _
    refine add64 (by omega) ⟨m - 1, by omega, j + 1, _, by omega, by congr 1, hq18, set_ints hi17, h17.touch hF18 (fun i hi => hi) hq4⟩
  -- opened twice
  refine (aw_open h17 (by omega)).use ?_
  rintro r w18 ⟨psa, sva, lva, Ga, rfl, hsa, hla, ma1, ma2, ma3, h18, _⟩
  refine ext0 (ext1 (ext2 ?_))
  refine alloc_n (n := 3) (by kernel_rfl) ?_
  intro ba w19 l19 hl19 hba hB19 hF19 hs19
  refine store_all (vs := [.bool true, sva, lva]) hB19 und44 hl19 rfl (by omega) (found_one (s := []) hsa hla) ?_
  intro w20 hB20 hF20 hs20
  have f20 : Fr [] w18 w20 := hF19.trans hF20 (fun i hi => .inr (by simp at hi; omega))
  have hsa20 := hsa.fr f20 (fun i _ => by simp)
  have hla20 := (sOwn.list (by decide)).fr hla f20 (fun i _ => by simp)
  have lta := hsa.lt
  have ltG := (sOwn.list (by decide)).lt hla
  have h20 := h18.step (Y2 := ba :: (fp sva ++ Ga)) f20 (fun i hi => by
    rcases List.mem_cons.1 hi with e | e
    · exact .inr (by omega)
    · exact .inl (List.mem_append.2 (.inl e)))
  refine (aw_open h20 (by omega)).use ?_
  rintro r w21 ⟨psb, svb, lvb, Gb, rfl, hsb, hlb, mb1, mb2, mb3, h21, X21, hX21, hd21, _⟩
  refine ext0 (ext1 (ext2 ?_))
  refine alloc_n (n := 3) (by kernel_rfl) ?_
  intro bb2 w22 l22 hl22 hbb2 hB22 hF22 _
  refine store_all (vs := [.bool true, svb, lvb]) hB22 und44 hl22 rfl (by omega) (found_one (s := []) hsb hlb) ?_
  intro w23 hB23 hF23 _
  have f23 : Fr [] w21 w23 := hF22.trans hF23 (fun i hi => .inr (by simp at hi; omega))
  have s21 := hX21.size
  have hBa23 := (hB20.fr hX21 (fun hm => hd21 _ hm (by simp))).fr f23 (by simp)
  have hsa23 := (hsa20.fr hX21 (fun i hi hm => hd21 i hm (by simp [hi]))).fr f23 (fun i _ => by simp)
  have hla23 := (sOwn.list (by decide)).fr ((sOwn.list (by decide)).fr hla20 hX21 (fun i hi hm => hd21 i hm (by simp [hi]))) f23 (fun i _ => by simp)
  have hsb23 := hsb.fr f23 (fun i _ => by simp)
  have hlb23 := (sOwn.list (by decide)).fr hlb f23 (fun i _ => by simp)
  have h23 : Fr [] w w23 := (hF04.t h21.frn).t f23
  have gt4 : ∀ i ∈ fp sva ++ Ga, w4.heap.size ≤ i ∧ i < ba ∧ w.heap.size ≤ i := fun i hi => by
    have a1 := h17.frn.size
    have a2 := hF04.size
    rcases List.mem_append.1 hi with e | e
    · have := ma1 i e; have := lta i e; omega
    · have := ma2 i e; have := ltG i e; omega
  have hbb2n : w20.heap.size ≤ bb2 := by omega
  have hban : ba < w20.heap.size := hB20.lt
  clear h11 h13 h14 h15 h16 h17 h18 h20 h21 hX15 hX16 hX21 hd15 hd16
  obtain ⟨cla, GA, hcapa, hsla, hrowa, hGA, hGe⟩ := list_open hla23
  obtain ⟨clb, GB, hcapb, hslb, hrowb, hGB, _⟩ := list_open hlb23
  refine fad (ldC_bk hBa23 rfl (hsla.lenV (neq ?_)))
  refine gdT (by simp [isB]) (fad rfl) (gdT (by simp [isB]) (ldC_bk hB23 rfl rfl) (gdT (by simp [isB]) (hslb.lenV rfl) (gdT (by simp [isB]) (neq rfl) (pick_f (by simp) (if_f (by simp) ?_)))))
  refine fad (ldC_bk hBa23 rfl (hsa23.sl.lenV ?_))
  have hlvG : ∀ i ∈ fp lva, i ∈ Ga := fun i hi => by rw [hGe, if_neg (by simp)]; exact List.mem_append.2 (.inl hi)
  obtain ⟨Fa, ⟨v1, e1, o1, hFa⟩, hFaG⟩ := rows_get sOwn hrowa 0 (by simp)
  have hea : cla[0]? = some v1 := by
    have hs : sOwn.size = 1 := rfl
    rw [hs] at e1
    have := congrArg (fun l : List Value => l[0]?) e1
    simpa [List.getElem?_take, List.getElem?_drop] using this
  have hv1G : ∀ i ∈ fp v1, i ∈ Ga := fun i hi => hGA i (hFaG i (by rw [hFa]; exact hi))
  obtain ⟨Fb, ⟨v2, e2, o2, hFb⟩, hFbG⟩ := rows_get sOwn hrowb 0 (by simp)
  have heb : clb[0]? = some v2 := by
    have hs : sOwn.size = 1 := rfl
    rw [hs] at e2
    have := congrArg (fun l : List Value => l[0]?) e2
    simpa [List.getElem?_take, List.getElem?_drop] using this
  have hlp : ([] ++ [p] : List (List Nat))[0] = p := rfl
  have hll1 : ([] ++ [p] : List (List Nat)).length = 1 := rfl
  refine ⟨fun m t w' => ∃ j vs, j + m = p.length ∧ t = .int .i64 (j : Nat) ∧ Own w' 5 1 sva p.length vs ∧ (∀ u ∈ vs, ∃ z, u = Value.int .u8 z) ∧ Fr (fp sva) w23 w', p.length, ⟨0, _, by omega, rfl, hsa23, bytes_ints p, Fr.refl _ _⟩, ?_⟩
  rintro m t w24 ⟨j, vs, hj, rfl, hs24, hi24, hF24⟩
  have hBa24 := hBa23.fr hF24 (fun hm => by have := (gt4 ba (by simp [hm])).2.1; omega)
  refine lss (if_p (fun hlt => ?_) (fun _ => ?_))
  · have hvl : vs.length = p.length := by have := hs24.1; omega
    have hjl : j < vs.length := by omega
    obtain ⟨z, hz⟩ := hi24 vs[j] (List.getElem_mem hjl)
    have hz' : vs[j]? = some (.int .u8 z) := by rw [List.getElem?_eq_getElem hjl, hz]
    refine fad (ldC_bk hBa24 rfl (ix1 hs24.sl (by omega) hz' ⟨rfl, ?_⟩))
    refine own_set hs24 (by omega) hz' (by kernel_rfl) rfl ?_
    intro w25 hs25 hF25 _
    exact add64 (by omega) ⟨m - 1, by omega, j + 1, _, by omega, by congr 1, hs25, set_ints hi24, hF24.t hF25⟩
  have hsla24 := hsla.fr hF24 (fun i hi hm => ma3 i (hlvG i hi) hm)
  have o124 : Own w24 5 1 v1 p.length (bytes p) := o1.fr hF24 (fun i hi hm => ma3 i (hv1G i hi) hm)
  refine fad (ldC_bk hBa24 rfl (ix1 (i := 0) hsla24 (by rw [hll1]; omega) hea (o124.sl.lenV ?_)))
  refine ⟨fun m t w' => ∃ j vs, j + m = p.length ∧ t = .int .i64 (j : Nat) ∧ Own w' 5 1 v1 p.length vs ∧ (∀ u ∈ vs, ∃ z, u = Value.int .u8 z) ∧ Fr (fp v1) w24 w' ∧ (∀ a s, w24.cell? a = some s → (∀ κ z, s ≠ .int κ z) → w'.cell? a = some s), p.length, ⟨0, _, by omega, rfl, o124, bytes_ints p, Fr.refl _ _, fun a s h _ => h⟩, ?_⟩
  rintro m t w25 ⟨j, vs, hj, rfl, hs25, hi25, hF25, hc25⟩
  have hBa25 := hBa24.fr hF25 (fun hm => by have := (gt4 ba (by simp [hv1G _ hm])).2.1; omega)
  have hcl : ∀ s ∈ cla, ∀ κ z, s ≠ .int κ z := by
    intro s hs κ z e
    have hl1 : cla.length = 1 := by obtain ⟨_, _, _, hl, _⟩ := hsla; have h0 : sOwn.size = 1 := rfl; rw [h0] at hl; simpa using hl
    obtain ⟨i, hi, rfl⟩ := List.mem_iff_getElem.1 hs
    obtain rfl : i = 0 := by omega
    rw [List.getElem?_eq_getElem hi] at hea
    have := Option.some.inj hea
    obtain ⟨A, c, hv⟩ := o1.len
    rw [this, hv] at e
    cases e
  refine lss (if_p (fun hlt => ?_) (fun _ => ?_))
  · have hvl : vs.length = p.length := by have := hs25.1; omega
    have hjl : j < vs.length := by omega
    obtain ⟨z, hz⟩ := hi25 vs[j] (List.getElem_mem hjl)
    have hz' : vs[j]? = some (.int .u8 z) := by rw [List.getElem?_eq_getElem hjl, hz]
    refine fad (ldC_bk hBa25 rfl (ix1 (i := 0) (sl_cells hsla24 hc25 hcl) (by rw [hll1]; omega) hea (ix1 hs25.sl (by omega) hz' ⟨rfl, ?_⟩)))
    refine own_set hs25 (by omega) hz' (by kernel_rfl) rfl ?_
    intro w26 hs26 hF26 hc26
    exact add64 (by omega) ⟨m - 1, by omega, j + 1, _, by omega, by congr 1, hs26, set_ints hi25, hF25.t hF26, fun a s h hn => hc26 a s (hc25 a s h hn) hn⟩
  have hFe : Fr (fp sva ++ Ga) w23 w25 := (hF24.mono (fun i hi => .inl (by simp [hi]))).trans hF25 (fun i hi => .inl (by simp [hv1G i hi]))
  have hBb := hB23.fr hFe (fun hm => by have := (gt4 _ hm).2.1; omega)
  have hsbE := hsb23.fr hFe (fun i hi hm => by have := (gt4 _ hm).2.1; have := mb1 i hi; omega)
  have hlbE := hslb.fr1 hFe (fun _ i hi hm => by
    have := (gt4 _ hm).2.1
    have h2 : i ∈ Gb := by
      have hh := hlb23
      obtain ⟨v, cc, gg, ee, _, _, _, hee⟩ := hh
      obtain rfl := (List.cons.inj ee).1
      rw [hee, if_neg (by simp)]
      exact List.mem_append.2 (.inl hi)
    have := mb2 i h2
    omega)
  have o2E : Own w25 5 1 v2 p.length (bytes p) := o2.fr hFe (fun i hi hm => by
    have := (gt4 _ hm).2.1
    have := mb2 i (hGB i (hFbG i (by rw [hFb]; exact hi)))
    omega)
  have hEnd : Fr [] w w25 := h23.trans hFe (fun i hi => .inr (gt4 i hi).2.2)
  have hxE := hxs.fr hEnd (fun i _ => by simp)
  refine fad (ldC_bk hBb rfl ((bytes_c hsbE.sl hxb hxE hxb).use ?_))
  rintro _ w26 ⟨rfl, e26⟩
  rw [e26]
  obtain ⟨a1, ha1, ha2⟩ := ix1_ex (κ := .i64) (i := 0) hlbE (by rw [hll1]; omega) heb
  refine gdT (by simp [isB]) (fad rfl) (gdT (by simp [isB]) (ldC_bk hBb rfl rfl) (gdT (by simp [isB]) ha1 (gdT (by simp [isB]) ha2 (gdT (by simp [isB]) rfl ?_))))
  refine gT (by simp [isB]) ((bytes_c o2E.sl hxb hxE hxb).use ?_)
  rintro _ w27 ⟨rfl, e27⟩
  rw [e27]
  exact pick_t (by simp) ⟨by simp, hEnd⟩
end Go.Proofs.Ytmlaconjeplhpaa
