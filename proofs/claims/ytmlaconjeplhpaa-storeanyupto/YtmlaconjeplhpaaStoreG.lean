/- Contract of package store's Checkpoint. -/
import Derived.Test.YtmlaconjeplhpaaStoreF
import Derived.ArgAppend
import Derived.Lib.SlBytesConst
set_option linter.unusedVariables false
set_option linter.unusedSimpArgs false
set_option maxRecDepth 20000
namespace Go.Proofs.Ytmlaconjeplhpaa
open Go Go.Vc
open St (Dsk All64 Blk pad four put4 halfN base hb walk eldest rootF openF putF rootL)

/-- The mark of a text's bytes: they read as before. -/
theorem conv_lit {w : World} {b n c : Nat} {vs : List Value} {k : Value → World → Prop} (hB : Bk w b 5 vs) (hn : vs.length = n)
    (h : ∀ w', Fr [b] w w' → Sl w' 1 (.slice (some ⟨b, 0, none⟩) n c) n vs → k (.slice (some ⟨b, 0, none⟩) n c) w') : Do Try.prog (convert 24 24 (.slice (some ⟨b, 0, none⟩) n c)) w k := by
  have hsh : w.shape? b = some (5, vs.length) := by
    unfold World.shape?
    rw [show w.heap[b]? = _ from hB]
    simp
  have hlt := hB.lt
  have hrun : (convert 24 24 (.slice (some ⟨b, 0, none⟩) n c)).run Try.prog w = .ok (.slice (some ⟨b, 0, none⟩) n c) (w.freeze ⟨b, vs.length, none⟩ 1) := by
    simp [convert, run_underlying Try.underlying24, run_underlying Try.underlying5, markStringish, hsh]
  have hget : ∀ j, (w.freeze ⟨b, vs.length, none⟩ 1).heap[j]? = if j = b then some (.cells vs.toArray 5 (vs.length, vs.length + 1)) else w.heap[j]? := by
    intro j
    unfold World.freeze
    rw [if_neg (by decide)]
    show (w.heap.modify b _)[j]? = _
    rw [Array.getElem?_modify]
    by_cases e : b = j
    · subst e
      rw [if_pos rfl, if_pos rfl, show w.heap[b]? = _ from hB]
      rfl
    · rw [if_neg e, if_neg (fun e' => e e'.symm)]
  refine ⟨_, _, hrun, h _ ⟨rfl, rfl, rfl, ?_, ?_⟩ ?_⟩
  · unfold World.freeze
    rw [if_neg (by decide)]
    show w.heap.size ≤ (w.heap.modify b _).size
    rw [Array.size_modify]
    exact Nat.le_refl _
  · intro j hj hm
    rw [hget, if_neg (by simpa using hm)]
  · refine ⟨_, _, rfl, by omega, fun e => by simp at e, fun a ha => ?_⟩
    obtain rfl := Option.some.inj ha
    intro j v hj
    rw [Addr.add_lit]
    simp only [World.cell?, hget, if_true]
    simpa using hj
/-- A number behind bytes that are full. -/
theorem putg_c {w : World} {a : Addr} {bs : List Nat} (hv : Sl w 1 (.slice (some a) bs.length bs.length) bs.length (bytes bs)) (x : Nat) (hb : bs.length ≤ 1000000) :
    CallF Try.prog 72 #[.slice (some a) bs.length bs.length, .int .u32 x] w fun r w' => Row w w' r (bs ++ put4 x) := by
  refine C_store_put_link ?_
  unfold C_store_put
  refine conv_u8 (shrn (n := 8) rfl (by decide) (by omega) (conv_u8 (shrn (n := 16) rfl (by decide) (by omega) (conv_u8 (shrn (n := 24) rfl (by decide) (by omega) (conv_u8 ?_))))))
  have e : [Value.int .u8 ((x : Int) % 256), .int .u8 ((x : Int) / 2 ^ 8 % 256), .int .u8 ((x : Int) / 2 ^ 16 % 256), .int .u8 ((x : Int) / 2 ^ 24 % 256)] = bytes (put4 x) := by
    simp only [bytes, put4, List.map_cons, List.map_nil]
    congr 2
  refine lit' (vs := bytes (put4 x)) Try.underlying24 infoB rfl (by rw [← e]; rfl) rfl (by omega) (fun v hv => by obtain ⟨_, _, rfl⟩ := List.mem_map.1 hv; rfl) ?_
  intro b w1 hb1 hB hF hs
  obtain ⟨A, c, e1, hl, hn, hc⟩ := hv.fr hF (fun i _ => by simp)
  obtain ⟨e2, e3, e4⟩ : some a = A ∧ bs.length = bs.length ∧ bs.length = c := by simpa using e1
  subst e2
  obtain ⟨A', c', e1', hl', hn', hc'⟩ := hB.sl (n := (put4 x).length) (by rw [bytes_length]) 4
  obtain ⟨e2', _⟩ : some (⟨b, 0, none⟩ : Addr) = A' ∧ 4 = c' := by simpa [St.put4_length] using e1'
  subst e2'
  obtain ⟨i, hi', hz, hs', hby⟩ := info_of infoB
  obtain ⟨v', w', hrun, ho, hg⟩ := run_append_arg_grows (P := Try.prog) w1 24 24 5 i (.int .u8 0) 1 1 Try.underlying24 hi' hz hs' hby rfl (by omega) a bs.length bs.length (bytes bs) hl (hc a rfl) ⟨b, 0, none⟩ (put4 x).length 4 (bytes (put4 x)) hl' (hc' _ rfl) (by rw [St.put4_length]; omega) (by rw [St.put4_length]; unfold maxLen; omega) (by rw [St.put4_length]; omega)
  rw [← bytes_append, ← List.length_append] at ho
  have hF2 : Fr [] w w' := hF.t (Fr.of_grownBy hg)
  refine ⟨v', w', hrun, ⟨⟨ho.1, ho.2.imp id ?_⟩, hF2, ?_⟩⟩
  · rintro ⟨g, cap, cur, h1, h2, h3⟩
    exact ⟨g, cap, cur, h1, Nat.zero_le _, h3⟩
  · intro i hi
    rcases ho.2 with ⟨rfl, h0⟩ | ⟨g, cap, cur, rfl, h2, _⟩
    · simp [fp_nil] at hi
    · simp [fp_some] at hi
      subst hi
      have := hF.size
      omega
section
variable {w : World} {ps pd bb : Nat} {lv tv x : Value} {D : Dsk} {gen life at' count safe : Nat} {tail p : List Nat}
theorem schk_c (h : Sk w ps pd bb lv tv D gen life at' count safe tail) (hx : Sl w 1 x p.length (bytes p)) (hpb : ∀ c ∈ p, c < 256) (hg : gen + 1 < 4294967296) (hxd : 0 < p.length → ∀ i ∈ fp x, i ∉ skX ps pd bb lv tv) (hL : D.L.length ≤ 100000000) (hD : D.B.length ≤ 65536) :
    CallF Try.prog 20 #[ptr ps, x] w fun r w' =>
      (r = .int .i64 3 ∧ 524288 < p.length ∧ Fr [] w w') ∨
      (r = .int .i64 10 ∧ p.length ≤ 524288 ∧ halfN D.B * 55 < p.length ∧ Fr [] w w') ∨
      (r = .int .i64 0 ∧ p.length ≤ 524288 ∧ p.length ≤ halfN D.B * 55 ∧ ∃ D' at2 t2, putF (gen + 1) life (base (halfN D.B) (gen + 1)) (p.length + 1) ⟨D.B, []⟩ 0 p = (D', at2, t2) ∧
        Wrote w ps pd bb lv tv D ⟨((Dsk.mk D'.B []).write ((gen + 1) % 2) (pad (rootL (gen + 1) p.length))).B, []⟩ (gen + 1) life at2 0 0 t2 w') := by
  have hhalf : halfN D.B ≤ 65536 := by unfold halfN; omega
  refine C_store_Store_Checkpoint_link ?_
  unfold C_store_Store_Checkpoint
  refine ptr_eql und31 (if_f rfl (hx.lenV (gtr (if_p (fun hgt => .inl ⟨rfl, by omega, Fr.refl _ _⟩) (fun hle => ?_)))))
  refine hx.lenV ?_
  refine (half_c h.dk h.blk).use ?_
  rintro _ w0 ⟨rfl, hw0⟩
  rw [hw0]
  refine mul64 (by omega) (gtr (if_p (fun hgt => .inr (.inl ⟨rfl, by omega, by omega, Fr.refl _ _⟩)) (fun hle2 => ?_)))
  refine nilC (fad (ldC_bk h.blk rfl ((dsync_c h.dk).use ?_)))
  rintro _ w1 ⟨rfl, hd1, hF1, hs1⟩
  have h1 : Sk w1 ps pd bb (.slice none 0 0) tv ⟨D.B, []⟩ gen life at' count safe tail := h.redisk hd1 (hF1.mono (fun i hi => .inl (by simp at hi; simp [hi]))) (by simp [fp_nil])
  refine nilC (fad (ldC_bk h1.blk rfl (addw ?_)))
  have eg : IntKind.u32.wrap ((gen : Int) + 1) = ((gen + 1 : Nat) : Int) := by
    rw [IntKind.wrap_u32]; omega
  rw [eg]
  refine nilC (fad (store' h1.blk (by kernel_rfl) (by simp) rfl ?_))
  intro w2 hB2 hF2 hs2
  refine nilC (fad (store' hB2 (by kernel_rfl) (by simp) rfl ?_))
  intro w3 hB3 hF3 hs3
  refine nilC (fad (store' hB3 (by kernel_rfl) (by simp) rfl ?_))
  intro w4 hB4 hF4 hs4
  refine nilC (fad (store' hB4 (by kernel_rfl) (by simp) rfl ?_))
  intro w5 hB5 hF5 hs5
  refine nilC (fad (store' hB5 (by kernel_rfl) (by simp) rfl ?_))
  intro w6 hB6 hF6 hs6
  have hF16 : Fr [ps] w1 w6 := (((hF2.t hF3).t hF4).t hF5).t hF6
  have hnps : ps ∉ fp (.slice none 0 0) := by simp [fp_nil]
  have h6 : Sk w6 ps pd bb (.slice none 0 0) (.slice none 0 0) ⟨D.B, []⟩ (gen + 1) life 0 0 0 [] :=
    ⟨hd1.fr hF16 (by simp; exact fun e => h.s1 e.symm) (by simp; exact fun e => h.s2 e.symm) (by simp [fp_nil]), by simpa using hB6, Own.nil _ _ _, h.s1, h.s2, by simp [fp_nil], by simp [fp_nil], by simp [fp_nil], by simp [fp_nil], by simp [fp_nil], hg, h.l⟩
  have hF06 : Fr [ps, pd] w w6 := (hF1.mono (fun i hi => .inl (by simp at hi; simp [hi]))).trans hF16 (fun i hi => .inl (by simp at hi; simp [hi]))
  have hF06' : Fr (skX ps pd bb lv tv) w w6 := hF06.mono (fun i hi => .inl (skX_mem.2 (by simp at hi; rcases hi with h | h <;> simp [h])))
  have hx6 : Sl w6 1 x p.length (bytes p) := hx.fr1 hF06' hxd
  refine (sput_c h6 hx6 (by simpa using hpb) (by omega) (by simp; omega) (by simp)).use ?_
  rintro _ w7 ⟨rfl, lv7, tv7, D7, at7, t7, hput, h7, hF7, hs7, hL7⟩
  simp only [List.nil_append] at hput hL7
  have sub7 : ∀ i ∈ skX ps pd bb lv7 tv7, i ∈ skX ps pd bb lv tv ∨ w.heap.size ≤ i := fun i hi => (hs7 i hi).elim (fun h0 => .inl (by rcases skX_mem.1 h0 with h | h | h | h | h <;> first | exact skX_mem.2 (by simp [h]) | simp [fp_nil] at h)) (fun h0 => .inr (by have := hF06.size; omega))
  have hF07 : Fr (skX ps pd bb lv tv) w w7 := hF06'.trans hF7 (fun i hi => .inl (by rcases skX_mem.1 hi with h | h | h | h | h <;> first | exact skX_mem.2 (by simp [h]) | simp [fp_nil] at h))
  refine nilC (fad (ldC_bk h7.blk rfl ((dsync_c h7.dk).use ?_)))
  rintro _ w8 ⟨rfl, hd8, hF8, hs8⟩
  have h8 : Sk w8 ps pd bb (.slice none 0 0) tv7 ⟨D7.B, []⟩ (gen + 1) life at7 0 0 t7 := h7.redisk hd8 (hF8.mono (fun i hi => .inl (by simp at hi; simp [hi]))) (by simp [fp_nil])
  have sub8 : ∀ i ∈ skX ps pd bb (.slice none 0 0) tv7, i ∈ skX ps pd bb lv tv ∨ w.heap.size ≤ i := fun i hi => sub7 i (by rcases skX_mem.1 hi with h | h | h | h | h <;> first | exact skX_mem.2 (by simp [h]) | simp [fp_nil] at h)
  have hF08 : Fr (skX ps pd bb lv tv) w w8 := hF07.trans hF8 (fun i hi => .inl (skX_mem.2 (by simp at hi; simp [hi])))
  refine lit' (vs := bytes St.magicN) Try.underlying24 infoB rfl rfl rfl (by omega) (fun v hv => by obtain ⟨_, _, rfl⟩ := List.mem_map.1 hv; rfl) ?_
  intro b w9 hb9 hB9 hF9 _
  refine conv_lit hB9 rfl ?_
  intro w10 hF10 hS10
  have hF810 : Fr [] w8 w10 := hF9.trans hF10 (fun i hi => .inr (by simp at hi; omega))
  have h10 := h8.fresh hF810
  refine nilC (fad (ldC_bk h10.blk rfl ?_))
  refine (putg_c (bs := St.magicN) hS10 (gen + 1) (by decide)).use ?_
  intro v11 w11 hN11
  have hN11' : Row w8 w11 v11 (St.magicN ++ put4 (gen + 1)) := hN11.base hF810
  have h11 := (h8.fresh hN11'.fr).fresh (Fr.drew [] w11)
  refine ⟨fun w' => Bk w' ps 124 [ptr pd, .int .u32 (gen + 1 : Nat), .int .u32 life, tv7, .int .i64 at7, .int .i64 0, .int .i64 0], h11.blk, ?_⟩
  refine nilC (fad (ldC_S (fun w' h => h) rfl (nilC (fad (ldC_S (fun w' h => h) rfl (rem (by omega) ?_))))))
  have e2 : (((gen + 1 : Nat) : Int).tmod 2) = (((gen + 1) % 2 : Nat) : Int) := rfl
  rw [e2]
  refine conv_i64 (by omega) (hx.lenV (conv_u32 (by omega) ?_))
  refine (put_c (hN11'.fresh (Fr.drew [] w11)) p.length (by simp [St.magicN, put4])).use ?_
  intro v12 w12 hN12
  have hrl : (St.magicN ++ put4 (gen + 1)) ++ put4 p.length = rootL (gen + 1) p.length := rfl
  rw [hrl] at hN12
  have h12 := h8.fresh hN12.fr
  refine ⟨h12.blk, ?_⟩
  have hrlen : (rootL (gen + 1) p.length).length = 16 := rfl
  refine (dwrite_c h12.dk ((gen + 1) % 2) hN12.own.sl (by rw [hrlen]; omega) (by
    intro c hc
    rcases List.mem_append.1 hc with hc | hc
    · rcases List.mem_append.1 hc with hc | hc
      · simp [St.magicN] at hc; omega
      · exact St.put4_lt _ c hc
    · exact St.put4_lt _ c hc) (by simp)).use ?_
  rintro _ w13 ⟨_, lv13, hd13, hF13, hs13⟩
  have h13 := h12.redisk hd13 hF13 hs13
  refine ⟨h13.blk, ?_⟩
  refine nilC (fad (ldC_bk h13.blk rfl ((dsync_c h13.dk).use ?_)))
  rintro _ w14 ⟨rfl, hd14, hF14, hs14⟩
  have h14 := h13.redisk hd14 (hF14.mono (fun i hi => .inl (by simp at hi; simp [hi]))) (by simp [fp_nil])
  refine .inr (.inr ⟨rfl, by omega, by omega, D7, at7, t7, hput, .slice none 0 0, tv7, h14, ?_, sub8⟩)
  have hF012 : Fr (skX ps pd bb lv tv) w w12 := hF08.trans hN12.fr (fun i hi => by simp at hi)
  refine (hF012.trans hF13 ?_).trans hF14 (fun i hi => .inl (skX_mem.2 (by simp at hi; simp [hi])))
  intro i hi
  refine .inl (skX_mem.2 ?_)
  simp [fp_nil] at hi
  rcases hi with h | h <;> simp [h]
end
end Go.Proofs.Ytmlaconjeplhpaa
