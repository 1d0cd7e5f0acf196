/- Contracts of the reference's reader: furlongref10.num, nums, total, upto, list. -/
import Derived.Test.YtachignmofpngaaRefR
import Derived.Test.YtachignmofpngaaRefX
set_option linter.unusedVariables false
set_option linter.unusedSimpArgs false
set_option maxRecDepth 20000
namespace Go.Proofs.Ytachignmofpngaa
open Go Go.Vc

/-- make([]T, n). -/
theorem make_n {P : Program} {w : World} {k : Value → World → Prop} {t e : TypeId} {z : Value} {size bytes n : Nat} {kl kc : IntKind} (ht : P.underlying t = some (.slice e)) (hi : (P.info? e).map (fun i => (i.zero, i.size, i.bytes)) = some (some z, size, bytes)) (hb : bytes * n ≤ 281474976710656) (hc : n ≤ 140737488355328)
    (h : ∀ b w' l, l.length = n * size → w.heap.size = b → Bk w' b e l → Fr [] w w' → w'.heap.size = b + 1 → k (.slice (some ⟨b, 0, none⟩) n n) w') : Do P (Instr.makeSlice t (.int kl (n : Int)) (.int kc (n : Int))) w k := by
  obtain ⟨i, hi', hz, hs, hby⟩ := info_of hi
  subst hby
  subst hs
  have hb' : (i.bytes : Int) * (n : Int) ≤ 281474976710656 := by
    have h : ((i.bytes * n : Nat) : Int) ≤ 281474976710656 := by omega
    rwa [Int.natCast_mul] at h
  have hr := run_make (P := P) w t e i z ht hi' hz kl kc n n (by omega) (Int.le_refl _) hb' (by omega)
  simp only [Int.toNat_natCast] at hr
  refine ⟨_, _, hr, h _ _ (madeCells z.cells (n * i.size)).toList ?_ rfl ?_ (Fr.alloc _ _ _) (alloc_size _ _)⟩
  · rw [Array.length_toList, size_madeCells]
  · exact alloc_new w _
/-- Putting a value together out of its parts. -/
theorem bldV {P : Program} {T : TypeId} {n : Nat} {vals : List Value} {parts : List (Nat × Value)} {k : Value → Prop} (sizes : List Nat)
    (hp : (placeT P T).map (fun pl => (List.range' 0 sizes.length).map pl) = some (offs 0 sizes)) (hz : (zeroT P T).map (fun z => z.cells.toList.length) = some n) (hn : sizes.sum = n) (hf : fieldsOk P T = true)
    (hv : parts = (vals.zipIdx 0).map fun x => (x.2, x.1)) (hl : vals.map (fun v => v.cells.toList.length) = sizes)
    (h : k (.agg (vals.flatMap fun v => v.cells.toList).toArray)) : Bld P T parts k := by
  obtain ⟨pl, hpl, hpo⟩ := Option.map_eq_some_iff.1 hp
  obtain ⟨zv, hzv, hzn⟩ := Option.map_eq_some_iff.1 hz
  have hfill := fillL_seq pl vals sizes 0 0 [] zv.cells.toList hpo hl rfl (by omega)
  simp only [List.nil_append] at hfill
  exact ⟨_, by unfold bldL; rw [hzv, hpl, hv]; exact hfill, hf, h⟩

/-- The bytes of a reader. -/
structure Rs (w : World) (v : Value) (bs : List Nat) : Prop where
  sl : Sl w 1 v bs.length (bytes bs)
  byte : ∀ b ∈ bs, b < 256
  big : bs.length ≤ 4611686018427387904
theorem Rs.fr {w w' : World} {v : Value} {bs : List Nat} (h : Rs w v bs) (f : Fr [] w w') : Rs w' v bs := ⟨h.sl.fr f (fun i _ => by simp), h.byte, h.big⟩
def cellsR (v : Value) (s : PS) : List Value := [v, .int .i64 s.pos, .int .i64 s.err]
def rv (v : Value) (s : PS) : Value := .agg (cellsR v s).toArray
/-- A variable of the kind Read stands at b, in a call that began in w0. -/
structure RC (w0 : World) (b : Nat) (v : Value) (bs : List Nat) (w : World) (s : PS) : Prop where
  src : Rs w0 v bs
  fr : Fr [] w0 w
  new : w0.heap.size ≤ b
  var : Bk w b 92 (cellsR v s)
  place : s.pos ≤ bs.length
/-- What a function that reads hands back. -/
def Nx (v : Value) (s' : PS) (w : World) (Q : Value → World → Prop) (r : Value) (w' : World) : Prop := ∃ x, r = .tuple #[rv v s', x] ∧ Q x w' ∧ Fr [] w w'
section
variable {w0 w : World} {b b2 : Nat} {v : Value} {bs : List Nat} {s s' : PS} {k : Value → World → Prop}
theorem sl_one {w : World} {size n : Nat} {v : Value} {l : List Value} (h : Sl w size v n l) : v.oneCell' = true ∧ v.cells.toList = [v] := by
  obtain ⟨A, c, rfl, _⟩ := h; exact ⟨rfl, rfl⟩
theorem cellsR_one (h : Rs w v bs) : ∀ u ∈ cellsR v s, u.oneCell' = true := by
  intro u hu
  unfold cellsR at hu
  simp only [List.mem_cons, List.not_mem_nil, or_false] at hu
  rcases hu with rfl | rfl | rfl
  · exact (sl_one h.sl).1
  · rfl
  · rfl
theorem RC.rs (c : RC w0 b v bs w s) : Rs w v bs := c.src.fr c.fr
theorem RC.go {w' : World} {X : List Nat} (c : RC w0 b v bs w s) (f : Fr X w w') (hb : b ∉ X) (hx : ∀ i ∈ X, w0.heap.size ≤ i) : RC w0 b v bs w' s :=
  ⟨c.src, c.fr.trans f (fun i hi => .inr (hx i hi)), c.new, c.var.fr f hb, c.place⟩
theorem RC.fresh {w' : World} (c : RC w0 b v bs w s) (f : Fr [] w w') : RC w0 b v bs w' s := c.go f (by simp) (by simp)
theorem rc_box (h : Rs w v bs) (hp : s.pos ≤ bs.length) (hk : ∀ b w', w.heap.size = b → RC w b v bs w' s → k (.pointer (some ⟨b, 0, none⟩)) w') : Do Try.prog (Instr.box 92 (rv v s)) w k := by
  refine box' (l := cellsR v s) rfl ?_
  intro b w' hb hB hF hs
  exact hk b w' hb ⟨h, hF, by omega, hB, hp⟩
/-- The variable is handed back. -/
theorem RC.ret {l : List Value} (c : RC w0 b v bs w s) (hB : Bk w b2 92 l) (hl : l.length = 3) (h2 : w0.heap.size ≤ b2) (hk : ∀ w', Fr [] w0 w' → Fr [b2] w w' → k (rv v s) w') :
    LdA (At w) 3 (.pointer (some ⟨b, 0, none⟩)) fun x => DoU Try.prog (Instr.storeAt 92 (.pointer (some ⟨b2, 0, none⟩)) x) w fun _ w' => LdA (At w') 3 (.pointer (some ⟨b2, 0, none⟩)) fun r => k r w' := by
  refine ldA_bk c.var (by simp [cellsR]) ?_
  refine store_all (vs := cellsR v s) hB (by kernel_rfl) hl rfl (by omega) (cellsR_one c.rs) ?_
  intro w' hB' hF' hs'
  refine ldA_bk hB' (by simp [cellsR]) ?_
  exact hk w' (c.fr.trans hF' (fun i hi => .inr (by simp at hi; omega))) hF'
/-- The variable is set to another value. -/
theorem RC.set (c : RC w0 b v bs w s) (hp : s'.pos ≤ bs.length) (hk : ∀ w', RC w0 b v bs w' s' → Fr [b] w w' → k undef w') : DoU Try.prog (Instr.storeAt 92 (.pointer (some ⟨b, 0, none⟩)) (rv v s')) w k := by
  refine store_all (n := 3) (vs := cellsR v s') c.var (by kernel_rfl) rfl rfl (by omega) (cellsR_one c.rs) ?_
  intro w' hB' hF' hs'
  exact hk w' ⟨c.src, c.fr.trans hF' (fun i hi => .inr (by have := c.new; simp at hi; omega)), c.new, hB', hp⟩ hF'
/-- 'r, x = f(r, ..)'. -/
theorem RC.call {f : FuncId} {args : Value → Array Value} {Q : Value → World → Prop} (c : RC w0 b v bs w s) (hf : CallF Try.prog f (args (rv v s)) w (Nx v s' w Q)) (hp : s'.pos ≤ bs.length)
    (hk : ∀ x w1 w2, Q x w1 → Fr [] w w1 → Fr [b] w1 w2 → RC w0 b v bs w2 s' → k x w2) :
    LdA (At w) 3 (.pointer (some ⟨b, 0, none⟩)) fun t => CallF Try.prog f (args t) w fun r w1 => Ext r 0 fun t1 => Ext r 1 fun t2 => DoU Try.prog (Instr.storeAt 92 (.pointer (some ⟨b, 0, none⟩)) t1) w1 fun _ w2 => k t2 w2 := by
  refine ldA_bk c.var (by simp [cellsR]) ?_
  refine CallF.use (Q := Nx v s' w Q) hf ?_
  rintro _ w1 ⟨x, rfl, hQ, hF⟩
  refine ext0 (ext1 ?_)
  refine (c.fresh hF).set hp ?_
  intro w2 c2 hF2
  exact hk x w1 w2 hQ hF hF2 c2
/-- The place and the error are set. -/
theorem RC.put {n : Nat} {e : Int} (c : RC w0 b v bs w s) (hn : n ≤ bs.length) (hk : ∀ w', RC w0 b v bs w' ⟨n, e⟩ → Fr [b] w w' → k undef w') :
    FAd 1 (.pointer (some ⟨b, 0, none⟩)) fun t => DoU Try.prog (Instr.storeAt 3 t (.int .i64 n)) w fun _ w1 => FAd 2 (.pointer (some ⟨b, 0, none⟩)) fun t' => DoU Try.prog (Instr.storeAt 38 t' (.int .i64 e)) w1 k := by
  refine fad (store' c.var (by kernel_rfl) (by simp [cellsR]) rfl fun w1 hb1 hf1 _ => ?_)
  refine fad (store' hb1 (by kernel_rfl) (by simp [cellsR]) rfl fun w2 hb2 hf2 _ => ?_)
  have hf : Fr [b] w w2 := hf1.t hf2
  exact hk w2 ⟨c.src, c.fr.trans hf (fun i hi => .inr (by have := c.new; simp at hi; omega)), c.new, by simpa [cellsR] using hb2, hn⟩ hf
end

theorem rnum_c {w : World} {v : Value} {bs : List Nat} {s : PS} (h : Rs w v bs) (hp : s.pos ≤ bs.length) :
    CallF Try.prog 80 #[rv v s] w (Nx v (decI bs s).2 w fun x _ => x = .int .i64 (decI bs s).1) := by
  refine C_furlongref10_num_link ?_
  unfold C_furlongref10_num
  refine rc_box h hp fun b w1 hb c1 => ?_
  refine alloc_n (n := 3) (by kernel_rfl) ?_
  intro b2 w2 l hl hb2 hB2 hF2 hs2
  have c2 := c1.fresh hF2
  have hlt := c1.var.lt
  have h2 : w.heap.size ≤ b2 := by omega
  refine fad (ldC_bk c2.var rfl (neq (if_p (fun he => ?_) (fun he => ?_))))
  · have e : decI bs s = (0, s) := by unfold decI; rw [if_pos he]
    rw [e]
    refine c2.ret hB2 hl h2 ?_
    intro w3 hF3 _
    exact ⟨_, rfl, rfl, hF3⟩
  · have e : decI bs s = (zag (getN bs s.pos).1, ⟨(getN bs s.pos).2.1, (getN bs s.pos).2.2⟩) := by unfold decI; rw [if_neg he]
    rw [e]
    refine fad (ldC_bk c2.var rfl (fad (ldC_bk c2.var rfl ?_)))
    refine (getWhole_c c2.rs.sl h.byte hp h.big).use ?_
    rintro _ w3 ⟨rfl, rfl⟩
    refine ext0 (ext1 (ext2 ?_))
    refine c2.put (getN_place hp) ?_
    intro w4 c4 hF4
    refine c4.ret (hB2.fr hF4 (by simp; omega)) hl h2 ?_
    intro w5 hF5 _
    exact ⟨_, rfl, rfl, hF5⟩

theorem decR_snoc {α : Type} (C : Codec α) (bs : List Nat) : ∀ (n : Nat) (s : PS), decR C bs (n + 1) s = ((decR C bs n s).1 ++ [(C.dec bs (decR C bs n s).2).1], (C.dec bs (decR C bs n s).2).2)
  | 0, s => rfl
  | n + 1, s => by rw [decR, decR_snoc C bs n]; rfl
theorem infoInt64 : (Try.prog.info? 2).map (fun i => (i.zero, i.size, i.bytes)) = some (some (.int .i64 0), 1, 8) := infoI

theorem rnums_c {w : World} {v : Value} {bs : List Nat} {s : PS} (h : Rs w v bs) (hp : s.pos ≤ bs.length) {n : Nat} (hn : n ≤ 1000) :
    CallF Try.prog 45 #[rv v s, .int .i64 n] w (Nx v (decR cInt bs n s).2 w fun x w' => Sl w' 1 x n (ints (decR cInt bs n s).1) ∧ ∀ i ∈ fp x, w.heap.size ≤ i) := by
  refine C_furlongref10_nums_link ?_
  unfold C_furlongref10_nums
  refine rc_box h hp fun b w1 hb c1 => ?_
  refine alloc_n (n := 3) (by kernel_rfl) ?_
  intro b2 w2 l hl hb2 hB2 hF2 hs2
  have c2 := c1.fresh hF2
  have hlt := c1.var.lt
  have h2 : w.heap.size ≤ b2 := by omega
  refine make_n (n := n) Try.underlying81 infoInt64 (by omega) (by omega) ?_
  intro bx w3 z hz hbx hBx hF3 hs3
  have c3 := c2.fresh hF3
  have hB3 := hB2.fr hF3 (by simp)
  have hlt2 := hB2.lt
  refine ⟨fun m i w' => ∃ j : Nat, j + m = n ∧ i = .int .i64 j ∧ RC w b v bs w' (decR cInt bs j s).2 ∧ (∃ l2, Bk w' b2 92 l2 ∧ l2.length = 3) ∧ ∃ rest, rest.length = n - j ∧ Bk w' bx 2 (ints (decR cInt bs j s).1 ++ rest), n, ⟨0, by omega, rfl, c3, ⟨l, hB3, hl⟩, z, by omega, hBx⟩, ?_⟩
  rintro m i w4 ⟨j, hj, rfl, c4, ⟨l4, hB4, hl4⟩, rest, hrest, hBx4⟩
  refine lss (if_p (fun hjn => ?_) (fun hjn => ?_))
  · have hpl := (cInt.rep j).place bs s hp
    refine c4.call (rnum_c c4.rs hpl) (cInt.place _ _ hpl) ?_
    rintro x w5 w6 rfl hF5 hF6 c6
    have hF46 : Fr [b] w4 w6 := (hF5.mono (fun i hi => by simp at hi)).t hF6
    have hBx6 := hBx4.fr hF46 (by simp; omega)
    have hlen : (ints (decR cInt bs j s).1).length = j := by rw [ints_length, decR_length]
    refine ⟨by omega, by omega, ?_⟩
    simp only [Option.map_some, Int.toNat_natCast, Nat.mul_one, Addr.add_lit, Nat.zero_add]
    obtain ⟨y, rest', rfl⟩ : ∃ y rest', rest = y :: rest' := by
      cases rest with
      | nil => simp at hrest; omega
      | cons y r => exact ⟨y, r, rfl⟩
    refine store' hBx6 (by kernel_rfl) (by rw [List.length_append, hlen]; simp) rfl ?_
    intro w7 hBx7 hF7 hs7
    have c7 := c6.go hF7 (by simp; omega) (by simp; omega)
    have hB7 := (hB4.fr hF46 (by simp; omega)).fr hF7 (by simp; omega)
    refine add64 (by omega) ⟨m - 1, by omega, j + 1, by omega, by congr 1, ?_, ⟨l4, hB7, hl4⟩, rest', by simp at hrest; omega, ?_⟩
    · rw [decR_snoc]; exact c7
    · rw [decR_snoc]
      have e : (ints (decR cInt bs j s).1 ++ y :: rest').set j (.int .i64 (decI bs (decR cInt bs j s).2).1) = ints ((decR cInt bs j s).1 ++ [(cInt.dec bs (decR cInt bs j s).2).1]) ++ rest' := by
        rw [List.set_append_right _ _ (by omega), hlen, Nat.sub_self, List.set_cons_zero]
        simp [ints]
        rfl
      rw [← e]
      exact hBx7
  · have hjn' : j = n := by omega
    subst hjn'
    have : rest = [] := List.eq_nil_of_length_eq_zero (by omega)
    subst this
    rw [List.append_nil] at hBx4
    refine c4.ret hB4 hl4 h2 ?_
    intro w5 hF5 hF5'
    refine ⟨_, rfl, ⟨?_, fun i hi => ?_⟩, hF5⟩
    · exact (hBx4.fr hF5' (by simp; omega)).sl (by rw [ints_length, decR_length]) _
    · simp [fp_some] at hi; omega
theorem totalR_c {w : World} {v : Value} {bs : List Nat} {s : PS} (h : Rs w v bs) (hp : s.pos ≤ bs.length)  :
    CallF Try.prog 59 #[rv v s] w (Nx v (decN 1024 3 bs s).2 w fun x _ => x = .int .i64 ((decN 1024 3 bs s).1 : Nat)) := by
  obtain ⟨most, hmo, hm⟩ : ∃ most : Nat, most = 1024 ∧ most ≤ 9223372036854775807 := ⟨1024, rfl, by omega⟩
  rw [← hmo]
  refine C_furlongref10_total_link ?_
  unfold C_furlongref10_total
  refine rc_box h hp fun b w1 hb c1 => ?_
  refine alloc_n (n := 3) (by kernel_rfl) ?_
  intro b2 w2 l hl hb2 hB2 hF2 hs2
  have c2 := c1.fresh hF2
  have hlt := c1.var.lt
  have h2 : w.heap.size ≤ b2 := by omega
  refine fad (ldC_bk c2.var rfl (neq (if_p (fun he => ?_) (fun he => ?_))))
  · have e : decN most 3 bs s = (0, s) := by unfold decN; rw [if_pos he]
    rw [e]
    refine c2.ret hB2 hl h2 ?_
    intro w3 hF3 _
    exact ⟨_, rfl, rfl, hF3⟩
  · have e : decN most 3 bs s = if (getN bs s.pos).2.2 = 0 ∧ most < (getN bs s.pos).1 then (0, ⟨s.pos, 3⟩) else ((getN bs s.pos).1, ⟨(getN bs s.pos).2.1, (getN bs s.pos).2.2⟩) := by unfold decN; rw [if_neg he]
    have hpl := getN_place hp
    have her := getN_err bs s.pos
    refine fad (ldC_bk c2.var rfl (fad (ldC_bk c2.var rfl (fad (ldC_bk c2.var rfl ?_)))))
    refine (getNum_c c2.rs.sl h.byte hp h.big).use ?_
    rintro _ w3 ⟨rfl, rfl⟩
    rw [e]
    generalize (getN bs s.pos).1 = x at *
    generalize (getN bs s.pos).2.1 = n at *
    generalize (getN bs s.pos).2.2 = er at *
    refine ext0 (ext1 (ext2 ?_))
    refine c2.put hpl ?_
    intro w4 c4 hF4
    have hB4 := hB2.fr hF4 (by simp; omega)
    refine eql ?_
    by_cases h0 : er = 0
    · refine gdT (by simp [isB, h0]) rfl (gdT (by simp [isB, h0]) (gtr rfl) (pick_t (by simp [h0]) (if_p (fun hm2 => ?_) (fun hm2 => ?_))))
      · rw [if_pos ⟨h0, by omega⟩]
        refine c4.put hp ?_
        intro w5 c5 hF5
        refine c5.ret (hB4.fr hF5 (by simp; omega)) hl h2 ?_
        intro w6 hF6 _
        exact ⟨_, rfl, rfl, hF6⟩
      · rw [if_neg (by omega)]
        refine ldA_bk c4.var (by simp [cellsR]) (conv_i64 (by omega) ?_)
        refine store_all (vs := cellsR v ⟨n, er⟩) hB4 (by kernel_rfl) hl rfl (by omega) (cellsR_one c4.rs) ?_
        intro w5 hB5 hF5 hs5
        refine ldA_bk hB5 (by simp [cellsR]) ?_
        exact ⟨_, rfl, rfl, c4.fr.trans hF5 (fun i hi => .inr (by simp at hi; omega))⟩
    · have hx0 := her h0
      subst hx0
      refine gdF (by simp [isB, h0]) (gdF (by simp [isB, h0]) (pick_f (by simp [h0]) (if_f rfl ?_)))
      rw [if_neg (by omega)]
      refine ldA_bk c4.var (by simp [cellsR]) (conv_i64 (by omega) ?_)
      refine store_all (vs := cellsR v ⟨n, er⟩) hB4 (by kernel_rfl) hl rfl (by omega) (cellsR_one c4.rs) ?_
      intro w5 hB5 hF5 hs5
      refine ldA_bk hB5 (by simp [cellsR]) ?_
      exact ⟨_, rfl, rfl, c4.fr.trans hF5 (fun i hi => .inr (by simp at hi; omega))⟩
theorem uptoR_c {w : World} {v : Value} {bs : List Nat} {s : PS} (h : Rs w v bs) (hp : s.pos ≤ bs.length) {most : Nat} (hm : most ≤ 9223372036854775807) :
    CallF Try.prog 46 #[rv v s, .int .u64 most] w (Nx v (decN most 4 bs s).2 w fun x _ => x = .int .i64 ((decN most 4 bs s).1 : Nat)) := by
  refine C_furlongref10_upto_link ?_
  unfold C_furlongref10_upto
  refine rc_box h hp fun b w1 hb c1 => ?_
  refine alloc_n (n := 3) (by kernel_rfl) ?_
  intro b2 w2 l hl hb2 hB2 hF2 hs2
  have c2 := c1.fresh hF2
  have hlt := c1.var.lt
  have h2 : w.heap.size ≤ b2 := by omega
  refine fad (ldC_bk c2.var rfl (neq (if_p (fun he => ?_) (fun he => ?_))))
  · have e : decN most 4 bs s = (0, s) := by unfold decN; rw [if_pos he]
    rw [e]
    refine c2.ret hB2 hl h2 ?_
    intro w3 hF3 _
    exact ⟨_, rfl, rfl, hF3⟩
  · have e : decN most 4 bs s = if (getN bs s.pos).2.2 = 0 ∧ most < (getN bs s.pos).1 then (0, ⟨s.pos, 4⟩) else ((getN bs s.pos).1, ⟨(getN bs s.pos).2.1, (getN bs s.pos).2.2⟩) := by unfold decN; rw [if_neg he]
    have hpl := getN_place hp
    have her := getN_err bs s.pos
    refine fad (ldC_bk c2.var rfl (fad (ldC_bk c2.var rfl (fad (ldC_bk c2.var rfl ?_)))))
    refine (getNum_c c2.rs.sl h.byte hp h.big).use ?_
    rintro _ w3 ⟨rfl, rfl⟩
    rw [e]
    generalize (getN bs s.pos).1 = x at *
    generalize (getN bs s.pos).2.1 = n at *
    generalize (getN bs s.pos).2.2 = er at *
    refine ext0 (ext1 (ext2 ?_))
    refine c2.put hpl ?_
    intro w4 c4 hF4
    have hB4 := hB2.fr hF4 (by simp; omega)
    refine eql ?_
    by_cases h0 : er = 0
    · refine gdT (by simp [isB, h0]) rfl (gdT (by simp [isB, h0]) rfl (gdT (by simp [isB, h0]) (gtr rfl) (pick_t (by simp [h0]) (if_p (fun hm2 => ?_) (fun hm2 => ?_)))))
      · rw [if_pos ⟨h0, by omega⟩]
        refine c4.put hp ?_
        intro w5 c5 hF5
        refine c5.ret (hB4.fr hF5 (by simp; omega)) hl h2 ?_
        intro w6 hF6 _
        exact ⟨_, rfl, rfl, hF6⟩
      · rw [if_neg (by omega)]
        refine ldA_bk c4.var (by simp [cellsR]) (conv_i64 (by omega) ?_)
        refine store_all (vs := cellsR v ⟨n, er⟩) hB4 (by kernel_rfl) hl rfl (by omega) (cellsR_one c4.rs) ?_
        intro w5 hB5 hF5 hs5
        refine ldA_bk hB5 (by simp [cellsR]) ?_
        exact ⟨_, rfl, rfl, c4.fr.trans hF5 (fun i hi => .inr (by simp at hi; omega))⟩
    · have hx0 := her h0
      subst hx0
      refine gdF (by simp [isB, h0]) (gdF (by simp [isB, h0]) (gdF (by simp [isB, h0]) (pick_f (by simp [h0]) (if_f rfl ?_))))
      rw [if_neg (by omega)]
      refine ldA_bk c4.var (by simp [cellsR]) (conv_i64 (by omega) ?_)
      refine store_all (vs := cellsR v ⟨n, er⟩) hB4 (by kernel_rfl) hl rfl (by omega) (cellsR_one c4.rs) ?_
      intro w5 hB5 hF5 hs5
      refine ldA_bk hB5 (by simp [cellsR]) ?_
      exact ⟨_, rfl, rfl, c4.fr.trans hF5 (fun i hi => .inr (by simp at hi; omega))⟩
end Go.Proofs.Ytachignmofpngaa
