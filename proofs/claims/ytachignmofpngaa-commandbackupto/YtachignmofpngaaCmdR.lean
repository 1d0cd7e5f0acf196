/- Contracts of the functions that read numbers: strip.Read, strip.ReadInt, and the reader's methods. -/
import Derived.Test.YtachignmofpngaaShape
import Derived.Test.YtachignmofpngaaCodec
set_option linter.unusedVariables false
set_option linter.unusedSimpArgs false
set_option maxRecDepth 20000
namespace Go.Proofs.Ytachignmofpngaa
open Go Go.Vc

theorem or8 {P : Program} {S : World → Prop} {t : TypeId} {cx cy : Bool} {x c : Nat} {k : Value → Prop} (hx : x < 72057594037927936) (hc : c < 256) (h : k (.int .u64 ((x * 256 + c : Nat) : Int))) :
    Bin P S .or t cx cy (.int .u64 ((x : Int) * 2 ^ 8)) (.int .u64 (c : Int)) k := by
  refine ⟨rfl, ?_⟩
  have e1 : BitVec.ofInt 64 ((x : Int) * 2 ^ 8) = BitVec.ofNat 64 (x * 256) := by
    rw [show (x : Int) * 2 ^ 8 = ((x * 256 : Nat) : Int) by omega]; exact BitVec.ofInt_natCast 64 _
  have e2 : BitVec.ofInt 64 (c : Int) = BitVec.ofNat 64 c := BitVec.ofInt_natCast 64 _
  have e3 : (BitVec.ofInt IntKind.u64.bits ((x : Int) * 2 ^ 8) ||| BitVec.ofInt IntKind.u64.bits (c : Int)).toNat = x * 256 + c := by
    show (BitVec.ofInt 64 ((x : Int) * 2 ^ 8) ||| BitVec.ofInt 64 (c : Int)).toNat = x * 256 + c
    rw [e1, e2, BitVec.toNat_or, BitVec.toNat_ofNat, BitVec.toNat_ofNat, Nat.mod_eq_of_lt (by omega), Nat.mod_eq_of_lt (by omega)]
    have := Nat.two_pow_add_eq_or_of_lt (i := 8) (b := c) (by omega) x
    rw [show x * 256 = 2 ^ 8 * x by omega, ← this]
  rw [e3, Go.IntWalk.u64_in _ (by omega)]
  exact h

theorem bytes_get {bs : List Nat} {i : Nat} (h : i < bs.length) : (bytes bs)[i]? = some (.int .u8 (bs[i] : Int)) := by simp [bytes, h]
theorem bytes_drop (bs : List Nat) (n : Nat) : (bytes bs).drop n = bytes (bs.drop n) := by simp [bytes, List.map_drop]
theorem bytes_take (bs : List Nat) (n : Nat) : (bytes bs).take n = bytes (bs.take n) := by simp [bytes, List.map_take]

theorem read_c {w : World} {v : Value} {bs : List Nat} {p : Nat} (hs : Sl w 1 v bs.length (bytes bs)) (hcap : capOk v) (hb : ∀ b ∈ bs, b < 256) (hp : p ≤ bs.length) (hn : bs.length ≤ 4611686018427387904) :
    CallF Try.prog 110 #[v, .int .i64 p] w fun r w' => r = .tuple #[.int .u64 (getN bs p).1, .int .i64 (getN bs p).2.1, .int .i64 (getN bs p).2.2] ∧ w' = w := by
  refine C_strip_Read_link ?_
  unfold C_strip_Read
  refine lss (gdT (by simp [isB]) rfl (gdT (by simp [isB]) rfl (gdT (by simp [isB]) (hs.lenV rfl) (gdT (by simp [isB]) (gtr rfl) (pick_f (by simp) ?_)))))
  refine if_p (fun h => absurd h (by omega)) fun _ => ?_
  refine hs.lenV (eql (if_p (fun he => ?_) (fun he => ?_)))
  · have e : getN bs p = (0, p, 5) := by unfold getN; rw [if_neg (by omega)]
    rw [e]
    exact ⟨rfl, rfl⟩
  have hlt : p < bs.length := by omega
  have e0 : bs.getD p 0 = bs[p] := by simp [List.getD, hlt]
  have hh : bs[p] < 256 := hb _ (List.getElem_mem hlt)
  have hg : getN bs p = if bs[p] < 192 then (bs[p], p + 1, 0)
    else if 199 < bs[p] then (0, p, 4)
    else if bs.length - p - 1 < bs[p] - 191 then (0, bs.length, 5)
    else if 18446744073709551616 ≤ shelfN (bs[p] - 191) + far ((bs.drop (p + 1)).take (bs[p] - 191)) then (0, p, 4)
    else (shelfN (bs[p] - 191) + far ((bs.drop (p + 1)).take (bs[p] - 191)), p + 1 + (bs[p] - 191), 0) := by
    unfold getN; rw [if_pos hlt, e0]
  have hget := bytes_get hlt
  generalize bs[p] = h at *
  refine ix1 hs hlt hget (lss (if_p (fun h1 => ?_) (fun h1 => ?_)))
  · rw [hg, if_pos (by omega)]
    refine ix1 hs hlt hget (conv_u64 (by omega) (add64 (by omega) ?_))
    exact ⟨by push_cast; rfl, rfl⟩
  refine ix1 hs hlt hget (gtr (if_p (fun h2 => ?_) (fun h2 => ?_)))
  · rw [hg, if_neg (by omega), if_pos (by omega)]
    exact ⟨rfl, rfl⟩
  rw [if_neg (by omega), if_neg (by omega)] at hg
  refine ix1 hs hlt hget (conv_i64 (by omega) (sub64 (by omega) (add64 (by omega) (add64 (by omega) ?_))))
  obtain ⟨k, hk⟩ : ∃ k, h - 191 = k := ⟨_, rfl⟩
  have ek : (h : Int) - 192 + 1 = (k : Int) := by omega
  rw [ek]
  rw [hk] at hg
  have ep : (p : Int) + 1 = ((p + 1 : Nat) : Int) := by omega
  rw [ep]
  refine slcLo hs hcap (l := p + 1) (by omega) ?_
  intro v' hs' _ _
  have er : ((bytes bs).drop ((p + 1) * 1)).take ((bs.length - (p + 1)) * 1) = bytes (bs.drop (p + 1)) := by
    rw [Nat.mul_one, Nat.mul_one, bytes_drop]
    exact List.take_of_length_le (by rw [bytes_length, List.length_drop]; omega)
  rw [er] at hs'
  have hrl : (bs.drop (p + 1)).length = bs.length - (p + 1) := List.length_drop
  have hrb : ∀ b ∈ bs.drop (p + 1), b < 256 := fun b hb' => hb b (List.mem_of_mem_drop hb')
  rw [show bs.length - p - 1 = bs.length - (p + 1) by omega] at hg
  rw [← hrl] at hs' hg
  generalize bs.drop (p + 1) = rest at *
  refine hs'.lenV ?_
  refine ⟨fun x left i w' => w' = w ∧ ∃ j : Nat, j ≤ k ∧ j ≤ rest.length ∧ (j = k ∨ j = rest.length) ∧ x = .int .u64 (far (rest.take j) : Nat) ∧ left = .int .i64 ((k : Int) - j), ?_, ?_⟩
  · rintro x left i w' ⟨rfl, j, h3, h4, h5, rfl, rfl⟩
    refine (shelf_c (k := k) (by omega) (by omega) w').use ?_
    rintro _ w2 ⟨rfl, rfl⟩
    refine gtr (if_p (fun h6 => ?_) (fun h6 => ?_))
    · rw [hg, if_pos (by omega)]
      exact hs.lenV ⟨rfl, rfl⟩
    · have hj : j = k := by omega
      subst hj
      rw [if_neg (by omega)] at hg
      have hfl := far_lt j (rest.take j) (by simp; omega) (fun y hy => hrb y (List.mem_of_mem_take hy))
      have hsh := shelfN_le j (by omega)
      have hpw : (256 : Nat) ^ j ≤ 18446744073709551616 := by
        have := Nat.pow_le_pow_right (n := 256) (by omega) (show j ≤ 8 by omega)
        exact this
      generalize far (rest.take j) = F at *
      refine addw (lss (if_p (fun h7 => ?_) (fun h7 => ?_)))
      · rw [IntKind.wrap_u64] at h7
        rw [hg, if_pos (by omega)]
        exact ⟨rfl, rfl⟩
      · rw [IntKind.wrap_u64] at h7
        have hlt2 : shelfN j + F < 18446744073709551616 := by omega
        rw [hg, if_neg (by omega)]
        refine addw (add64 (by omega) (add64 (by omega) ⟨?_, rfl⟩))
        rw [IntKind.wrap_u64]
        congr 2
        · congr 1
          · congr 1; omega
  · refine ⟨fun m x left i w' => w' = w ∧ ∃ j : Nat, j < k ∧ j ≤ rest.length ∧ j + m = rest.length ∧ x = .int .u64 (far (rest.take j) : Nat) ∧ left = .int .i64 ((k : Int) - j) ∧ i = .int .i64 j, rest.length, ⟨rfl, 0, by omega, by omega, by omega, by simp [far], by simp, rfl⟩, ?_⟩
    rintro m x left i w' ⟨rfl, j, h3, h4, h5, rfl, rfl, rfl⟩
    refine lss (if_p (fun h6 => ?_) (fun h6 => ?_))
    · have hjl : j < rest.length := by omega
      have hfl := far_lt j (rest.take j) (by simp; omega) (fun y hy => hrb y (List.mem_of_mem_take hy))
      have hpw : (256 : Nat) ^ j ≤ 72057594037927936 := by
        have := Nat.pow_le_pow_right (n := 256) (by omega) (show j ≤ 7 by omega)
        exact this
      have hc := hrb _ (List.getElem_mem hjl)
      refine ix1 hs' hjl (bytes_get hjl) (shlu64 (n := 8) rfl (by omega) (by omega) (conv_u64 (by omega) (or8 (by omega) hc (sub64 (by omega) (eql ?_)))))
      have ef : far (rest.take j) * 256 + rest[j] = far (rest.take (j + 1)) := by
        rw [List.take_succ_eq_append_getElem hjl, far_snoc]
      rw [ef]
      refine if_p (fun h7 => ?_) (fun h7 => ?_)
      · exact ⟨rfl, j + 1, by omega, by omega, .inl (by omega), rfl, by congr 1; omega⟩
      · refine add64 (by omega) ⟨m - 1, by omega, rfl, j + 1, by omega, by omega, by omega, rfl, by congr 1; omega, by congr 1⟩
    · exact ⟨rfl, j, by omega, by omega, .inr (by omega), rfl, rfl⟩

theorem readInt_c {w : World} {v : Value} {bs : List Nat} {p : Nat} (hs : Sl w 1 v bs.length (bytes bs)) (hcap : capOk v) (hb : ∀ b ∈ bs, b < 256) (hp : p ≤ bs.length) (hn : bs.length ≤ 4611686018427387904) :
    CallF Try.prog 99 #[v, .int .i64 p] w fun r w' => r = .tuple #[.int .i64 (zag (getN bs p).1), .int .i64 (getN bs p).2.1, .int .i64 (getN bs p).2.2] ∧ w' = w := by
  refine C_strip_ReadInt_link ?_
  unfold C_strip_ReadInt
  refine (read_c hs hcap hb hp hn).use ?_
  rintro _ w1 ⟨rfl, rfl⟩
  have hlt := getN_lt (p := p) hb
  have hzag : zag (getN bs p).1 = if (getN bs p).1 % 2 = 1 then -(((getN bs p).1 / 2 : Nat) : Int) - 1 else (((getN bs p).1 / 2 : Nat) : Int) := rfl
  generalize (getN bs p).1 = x at *
  generalize (getN bs p).2.1 = n at *
  generalize (getN bs p).2.2 = e at *
  refine ext0 (ext1 (ext2 ?_))
  have e1 : ((x : Int).tmod 2) = ((x % 2 : Nat) : Int) := rfl
  have e2 : ((x : Int).tdiv 2) = ((x / 2 : Nat) : Int) := rfl
  have e3 : IntKind.u64.wrap ((x / 2 : Nat) : Int) = ((x / 2 : Nat) : Int) := Go.IntWalk.u64_in _ (by omega)
  refine rem (by omega) ?_
  rw [e1]
  refine eql (if_p (fun h => ?_) (fun h => ?_))
  · refine quo (by omega) ?_
    rw [e2, e3]
    refine conv_i64 (by omega) (not64 (by omega) ⟨?_, rfl⟩)
    rw [hzag, if_pos (by omega)]
  · refine quo (by omega) ?_
    rw [e2, e3]
    refine conv_i64 (by omega) ⟨?_, rfl⟩
    rw [hzag, if_neg (by omega)]
end Go.Proofs.Ytachignmofpngaa
