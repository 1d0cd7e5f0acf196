/- Contracts of package store: four, put, half, place, fits. -/
import Derived.Test.YtmlaconjeplhpaaDiskC
set_option linter.unusedVariables false
set_option linter.unusedSimpArgs false
set_option maxRecDepth 20000
namespace Go.Proofs.Ytmlaconjeplhpaa
open Go Go.Vc
open St (Dsk All64 Blk pad four put4 halfN base)

theorem or32 {P : Program} {S : World → Prop} {t : TypeId} {cx cy : Bool} {x y i : Nat} {k : Value → Prop} (hx : x < 2 ^ i) (hxy : y * 2 ^ i + x < 4294967296) (h : k (.int .u32 ((x + y * 2 ^ i : Nat) : Int))) :
    Bin P S .or t cx cy (.int .u32 (x : Int)) (.int .u32 ((y * 2 ^ i : Nat) : Int)) k := by
  refine ⟨rfl, ?_⟩
  have e1 : BitVec.ofInt 32 (x : Int) = BitVec.ofNat 32 x := BitVec.ofInt_natCast 32 _
  have e2 : BitVec.ofInt 32 ((y * 2 ^ i : Nat) : Int) = BitVec.ofNat 32 (y * 2 ^ i) := BitVec.ofInt_natCast 32 _
  have e3 : (BitVec.ofInt IntKind.u32.bits (x : Int) ||| BitVec.ofInt IntKind.u32.bits ((y * 2 ^ i : Nat) : Int)).toNat = x + y * 2 ^ i := by
    show (BitVec.ofInt 32 (x : Int) ||| BitVec.ofInt 32 ((y * 2 ^ i : Nat) : Int)).toNat = x + y * 2 ^ i
    rw [e1, e2, BitVec.toNat_or, BitVec.toNat_ofNat, BitVec.toNat_ofNat, Nat.mod_eq_of_lt (by omega), Nat.mod_eq_of_lt (by omega)]
    have := Nat.two_pow_add_eq_or_of_lt (i := i) (b := x) hx y
    rw [Nat.or_comm, Nat.mul_comm y, ← this]
    omega
  rw [e3]
  have e4 : IntKind.u32.wrap ((x + y * 2 ^ i : Nat) : Int) = ((x + y * 2 ^ i : Nat) : Int) := by
    rw [IntKind.wrap_u32]; omega
  rw [e4]
  exact h
theorem shl32 {P : Program} {S : World → Prop} {t : TypeId} {cx cy : Bool} {y i : Nat} {k : Value → Prop} (hi : i ≤ 32) (hy : y * 2 ^ i < 4294967296) (h : k (.int .u32 ((y * 2 ^ i : Nat) : Int))) :
    Bin P S .shl t cx cy (.int .u32 (y : Int)) (.int .u64 (i : Int)) k := by
  refine shlw (n := i) rfl (by simpa [IntKind.bits] using hi) ?_
  rw [IntKind.wrap_u32]
  have : ((y : Int) * 2 ^ i) = ((y * 2 ^ i : Nat) : Int) := by push_cast; rfl
  rw [this]
  have e : ((y * 2 ^ i : Nat) : Int) % 4294967296 = ((y * 2 ^ i : Nat) : Int) := by omega
  rw [e]
  exact h
theorem conv_u32 {κ : IntKind} {a : Int} {k : Value → Prop} (h0 : 0 ≤ a ∧ a < 4294967296) (h : k (.int .u32 a)) : ConvI .u32 (.int κ a) k := by
  show k _
  rw [IntKind.wrap_u32]
  have : a % 4294967296 = a := by omega
  rw [this]; exact h
theorem four_c {w : World} {v : Value} {l : List Nat} (hs : Sl w 1 v l.length (bytes l)) (h4 : 4 ≤ l.length) (hb : ∀ b ∈ l, b < 256) : CallF Try.prog 68 #[v] w fun r w' => r = .int .u32 (four l) ∧ Fr [] w w' := by
  refine C_store_four_link ?_
  unfold C_store_four
  have hd : Sl (World.drew w) 1 v l.length (bytes l) := hs.fr (Fr.drew [] w) (by simp)
  match l, h4 with
  | a :: b :: c :: d :: r, _ =>
    have ha := hb a (by simp)
    have hb' := hb b (by simp)
    have hc := hb c (by simp)
    have hd' := hb d (by simp)
    have hf : four (a :: b :: c :: d :: r) = a + 256 * b + 65536 * c + 16777216 * d := rfl
    refine ⟨fun w' => Sl w' 1 v (a :: b :: c :: d :: r).length (bytes (a :: b :: c :: d :: r)), hd, ?_⟩
    have ix : ∀ {i : Nat} {u : Value} {k : Value → Prop}, i < (a :: b :: c :: d :: r).length → (bytes (a :: b :: c :: d :: r))[i]? = some u → k u → IAdS 1 v (.int .i64 (i : Nat)) fun t => LdC (fun w' => Sl w' 1 v (a :: b :: c :: d :: r).length (bytes (a :: b :: c :: d :: r))) t k :=
      fun hi hu hk => ix1S (fun w' h => h) hd hi hu hk
    refine ix (i := 0) (by simp) rfl (conv_u32 (by omega) ?_)
    refine ix (i := 1) (by simp) rfl (conv_u32 (by omega) (shl32 (i := 8) (by omega) (by omega) (or32 (i := 8) (by omega) (by omega) ?_)))
    refine ix (i := 2) (by simp) rfl (conv_u32 (by omega) (shl32 (i := 16) (by omega) (by omega) (or32 (i := 16) (by omega) (by omega) ?_)))
    refine ix (i := 3) (by simp) rfl (conv_u32 (by omega) (shl32 (i := 24) (by omega) (by omega) (or32 (i := 24) (by omega) (by omega) ?_)))
    refine ⟨?_, Fr.drew [] w⟩
    rw [hf]
    congr 1
    omega
/-- A row of bytes that has been made since w0. -/
abbrev Row (w0 w : World) (v : Value) (bs : List Nat) : Prop := New w0 w 5 1 v bs.length (bytes bs)
theorem row_append {w0 w : World} {v x : Value} {bs l : List Nat} {k : Value → World → Prop} (hN : Row w0 w v bs) (hx : Sl w 1 x l.length (bytes l)) (hb : bs.length + l.length ≤ 140737488355328)
    (h : ∀ v' w', Row w0 w' v' (bs ++ l) → Fr (fp v) w w' → (∀ i ∈ fp v', i ∈ fp v ∨ w.heap.size ≤ i) → k v' w') : Do Try.prog (Builtin.append_ #[24, 24] 24 #[v, x]) w k := by
  refine append' hN Try.underlying24 infoB rfl (by omega) hx (bytes_one l) (by omega) (by omega) ?_
  intro v' w' hN' hf hs
  rw [← bytes_append, ← List.length_append] at hN'
  exact h v' w' hN' hf hs
theorem row_nil (w : World) : Row w w (.slice none 0 0) [] := New.nil w _ 1
theorem put_c {w0 w : World} {v : Value} {bs : List Nat} (hN : Row w0 w v bs) (x : Nat) (hb : bs.length ≤ 1000000) :
    CallF Try.prog 72 #[v, .int .u32 x] w fun r w' => Row w0 w' r (bs ++ put4 x) := by
  refine C_store_put_link ?_
  unfold C_store_put
  refine conv_u8 (shrn (n := 8) rfl (by decide) (by omega) (conv_u8 (shrn (n := 16) rfl (by decide) (by omega) (conv_u8 (shrn (n := 24) rfl (by decide) (by omega) (conv_u8 ?_))))))
  have e : [Value.int .u8 ((x : Int) % 256), .int .u8 ((x : Int) / 2 ^ 8 % 256), .int .u8 ((x : Int) / 2 ^ 16 % 256), .int .u8 ((x : Int) / 2 ^ 24 % 256)] = bytes (put4 x) := by
    simp only [bytes, put4, List.map_cons, List.map_nil]
    congr 2
  refine lit' (vs := bytes (put4 x)) Try.underlying24 infoB rfl (by rw [← e]; rfl) rfl (by omega) (fun v hv => by obtain ⟨_, _, rfl⟩ := List.mem_map.1 hv; rfl) ?_
  intro b w1 hb1 hB hF hs
  refine row_append (hN.fresh hF) (hB.sl (n := (put4 x).length) (by rw [bytes_length]) 4) (by rw [St.put4_length]; omega) ?_
  intro v' w2 hN2 _ _
  exact hN2

/-- A store stands at ps, on its disk. -/
structure Sk (w : World) (ps pd bb : Nat) (lv tv : Value) (D : Dsk) (gen life at' count safe : Nat) (tail : List Nat) : Prop where
  dk : Dk w pd bb lv D
  blk : Bk w ps 124 [ptr pd, .int .u32 gen, .int .u32 life, tv, .int .i64 at', .int .i64 count, .int .i64 safe]
  tl : Own w 5 1 tv tail.length (bytes tail)
  s1 : ps ≠ pd
  s2 : ps ≠ bb
  s3 : ps ∉ fp lv
  s4 : ps ∉ fp tv
  s5 : pd ∉ fp tv
  s6 : bb ∉ fp tv
  s7 : ∀ i ∈ fp lv, i ∉ fp tv
  g : gen < 4294967296
  l : life < 4294967296
def skX (ps pd bb : Nat) (lv tv : Value) : List Nat := ps :: pd :: bb :: (fp lv ++ fp tv)
theorem Sk.fresh {w w' : World} {ps pd bb : Nat} {lv tv : Value} {D : Dsk} {gen life at' count safe : Nat} {tail : List Nat} (h : Sk w ps pd bb lv tv D gen life at' count safe tail) (f : Fr [] w w') : Sk w' ps pd bb lv tv D gen life at' count safe tail :=
  ⟨h.dk.fresh f, h.blk.fr f (by simp), h.tl.fr f (fun i _ => by simp), h.s1, h.s2, h.s3, h.s4, h.s5, h.s6, h.s7, h.g, h.l⟩
theorem Sk.fr {w w' : World} {ps pd bb : Nat} {lv tv : Value} {D : Dsk} {gen life at' count safe : Nat} {tail : List Nat} {X : List Nat} (h : Sk w ps pd bb lv tv D gen life at' count safe tail) (f : Fr X w w') (hx : ∀ i ∈ skX ps pd bb lv tv, i ∉ X) : Sk w' ps pd bb lv tv D gen life at' count safe tail :=
  ⟨h.dk.fr f (hx _ (by simp [skX])) (hx _ (by simp [skX])) (fun i hi => hx _ (by simp [skX, hi])), h.blk.fr f (hx _ (by simp [skX])), h.tl.fr f (fun i hi => hx _ (by simp [skX, hi])), h.s1, h.s2, h.s3, h.s4, h.s5, h.s6, h.s7, h.g, h.l⟩
section
variable {w : World} {ps pd bb : Nat} {lv : Value} {D : Dsk} {gen life : Nat} {tvv : Value} {rest : List Value}
theorem half_c (h : Dk w pd bb lv D) (hb : Bk w ps 124 (ptr pd :: rest)) : CallF Try.prog 73 #[ptr ps] w fun r w' => r = .int .i64 (halfN D.B : Nat) ∧ w' = w := by
  refine C_store_Store_half_link ?_
  unfold C_store_Store_half
  refine nilC (fad (ldC_bk hb rfl ((dblocks_c h).use ?_)))
  rintro _ w1 ⟨rfl, rfl⟩
  have hl := h.len
  refine sub64 (by omega) (max2 (quo (by omega) ⟨?_, rfl⟩))
  have e : (if (0 : Int) > (D.B.length : Int) - 2 then (0 : Int) else (D.B.length : Int) - 2) = ((D.B.length - 2 : Nat) : Int) := by split <;> omega
  rw [e]
  have e2 : (((D.B.length - 2 : Nat) : Int).tdiv 2) = ((halfN D.B : Nat) : Int) := rfl
  rw [e2, Go.IntWalk.i64_in _ (by unfold halfN; omega)]
theorem place_c (h : Dk w pd bb lv D) (hb : Bk w ps 124 (ptr pd :: .int .u32 gen :: rest)) (i : Nat) (hi : i ≤ 1000000000) : CallF Try.prog 102 #[ptr ps, .int .i64 i] w fun r w' => r = .int .i64 (base (halfN D.B) gen + i : Nat) ∧ Fr [] w w' := by
  refine C_store_Store_place_link ?_
  unfold C_store_Store_place
  refine ⟨fun w' => Bk w' ps 124 (ptr pd :: .int .u32 gen :: rest), hb.drew, ?_⟩
  refine nilC (fad (ldC_S (fun w' h => h) rfl (rem (by omega) ?_)))
  have e : ((gen : Int).tmod 2) = ((gen % 2 : Nat) : Int) := rfl
  rw [e]
  refine conv_i64 (by omega) ?_
  refine (half_c (h.fresh (Fr.drew [] w)) hb.drew).use ?_
  rintro _ w1 ⟨rfl, rfl⟩
  have hl := h.len
  have hh : halfN D.B ≤ 32768 := by unfold halfN; omega
  have hm : gen % 2 * halfN D.B ≤ 32768 := by
    have : gen % 2 = 0 ∨ gen % 2 = 1 := by omega
    rcases this with h3 | h3 <;> rw [h3] <;> omega
  have e2 : ((gen % 2 : Nat) : Int) * ((halfN D.B : Nat) : Int) = ((gen % 2 * halfN D.B : Nat) : Int) := by push_cast; rfl
  refine ⟨hb.drew, mul64 (by rw [e2]; omega) ?_⟩
  rw [e2]
  refine add64 (by omega) (add64 (by omega) ⟨?_, Fr.drew [] w⟩)
  unfold base
  congr 1
end
theorem fits_c {w : World} {ps pd bb : Nat} {lv tv : Value} {D : Dsk} {gen life at' count safe : Nat} {tail : List Nat} (h : Sk w ps pd bb lv tv D gen life at' count safe tail) (n : Nat) (hn : at' ≤ 1000000000 ∧ tail.length ≤ 1000000000) :
    CallF Try.prog 70 #[ptr ps, .int .i64 n] w fun r w' => r = .bool (decide ((n : Int) ≤ ((halfN D.B : Nat) - (at' : Int)) * 55 - tail.length)) ∧ Fr [] w w' := by
  refine C_store_Store_fits_link ?_
  unfold C_store_Store_fits
  refine ⟨fun w' => Bk w' ps 124 [ptr pd, .int .u32 gen, .int .u32 life, tv, .int .i64 at', .int .i64 count, .int .i64 safe], h.blk.drew, ?_⟩
  refine nilC (fad (ldC_S (fun w' h => h) rfl (nilC (fad (ldC_S (fun w' h => h) rfl (h.tl.sl.lenV ?_))))))
  refine (half_c (h.dk.fresh (Fr.drew [] w)) h.blk.drew).use ?_
  rintro _ w1 ⟨rfl, rfl⟩
  have hl := h.dk.len
  have hh : halfN D.B ≤ 32768 := by unfold halfN; omega
  exact ⟨h.blk.drew, sub64 (by omega) (mul64 (by omega) (sub64 (by omega) (leq ⟨rfl, Fr.drew [] w⟩)))⟩
end Go.Proofs.Ytmlaconjeplhpaa
