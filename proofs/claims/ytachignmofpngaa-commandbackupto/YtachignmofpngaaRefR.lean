/- Contracts of the reference's functions that read numbers. -/
import Derived.Test.YtachignmofpngaaCmdR7
import Derived.Test.YtachignmofpngaaRefW
set_option linter.unusedVariables false
set_option linter.unusedSimpArgs false
set_option maxRecDepth 20000
namespace Go.Proofs.Ytachignmofpngaa
open Go Go.Vc

theorem begins_c {k : Nat} (h1 : 1 ≤ k) (h8 : k ≤ 8) (w : World) :
    CallF Try.prog 102 #[.int .i64 k] w fun v w' => v = .int .u64 (shelfN k) ∧ w' = w := by
  refine C_furlongref03_begins_link ?_
  unfold C_furlongref03_begins
  refine ⟨fun m x size i w' => w' = w ∧ ∃ j : Nat, 1 ≤ j ∧ j + m = k ∧ i = .int .i64 j ∧ x = .int .u64 (shelfN j) ∧ ∃ sz : Int, size = .int .u64 sz ∧ (j < 8 → sz = ((256 ^ j : Nat) : Int)), k - 1, ⟨rfl, 1, by omega, by omega, rfl, rfl, 256, rfl, fun _ => rfl⟩, ?_⟩
  rintro m x size i w' ⟨rfl, j, hj1, hj, rfl, rfl, sz, rfl, hsz⟩
  refine lss (if_p (fun hlt => ?_) (fun hge => ?_))
  · have hs := shelfN_le (j + 1) (by omega)
    have hz := hsz (by omega)
    subst hz
    rw [shelf_step hj1] at hs
    have e : shelfN (j + 1) = shelfN j + 256 ^ j := shelf_step hj1
    have e2 : (256 : Nat) ^ (j + 1) = 256 ^ j * 256 := Nat.pow_succ 256 j
    generalize hN : 256 ^ j = N at *
    refine addu64 (by omega) (mulw (add64 (by omega) ⟨m - 1, by omega, rfl, j + 1, by omega, by omega, rfl, ?_, _, rfl, ?_⟩))
    · rw [e]; push_cast; rfl
    · intro h
      rw [IntKind.wrap_u64, e2]
      have : 256 ^ (j + 1) ≤ 256 ^ 7 := Nat.pow_le_pow_right (by omega) (by omega)
      have h7 : (256 : Nat) ^ 7 = 72057594037927936 := by decide
      omega
  · exact ⟨by rw [show k = j by omega], rfl⟩

theorem getNum_c {w : World} {v : Value} {bs : List Nat} {p : Nat} (hs : Sl w 1 v bs.length (bytes bs)) (hb : ∀ b ∈ bs, b < 256) (hp : p ≤ bs.length) (hn : bs.length ≤ 4611686018427387904) :
    CallF Try.prog 81 #[v, .int .i64 p] w fun r w' => r = .tuple #[.int .u64 (getN bs p).1, .int .i64 (getN bs p).2.1, .int .i64 (getN bs p).2.2] ∧ w' = w := by
  refine C_furlongref03_GetNum_link ?_
  unfold C_furlongref03_GetNum
  refine lss (gdT (by simp [isB]) rfl (gdT (by simp [isB]) rfl (gdT (by simp [isB]) (hs.lenV rfl) (gdT (by simp [isB]) (gtr rfl) (pick_f (by simp) ?_)))))
  refine if_p (fun h => absurd h (by omega)) fun _ => ?_
  refine hs.lenV (eql (if_p (fun he => ?_) (fun he => ?_)))
  · have e : getN bs p = (0, bs.length, 5) := by
      have : p = bs.length := by omega
      unfold getN; rw [if_neg (by omega), this]
    rw [e]
    exact hs.lenV ⟨rfl, rfl⟩
  have hlt : p < bs.length := by omega
  have e0 : bs.getD p 0 = bs[p] := by simp [List.getD, hlt]
  have hh : bs[p] < 256 := hb _ (List.getElem_mem hlt)
  have hg : getN bs p = if bs[p] < 192 then (bs[p], p + 1, 0)
    else if 199 < bs[p] then (0, p, 4)
    else if bs.length - p - 1 < bs[p] - 191 then (0, bs.length, 5)
    else if 18446744073709551616 ≤ shelfN (bs[p] - 191) + far ((bs.drop (p + 1)).take (bs[p] - 191)) then (0, p, 4)
    else (shelfN (bs[p] - 191) + far ((bs.drop (p + 1)).take (bs[p] - 191)), p + 1 + (bs[p] - 191), 0) := by
    unfold getN; rw [if_pos hlt, e0]
  have hget := bytes_get hlt
  generalize bs[p] = h at *
  refine ix1 hs hlt hget (lss (if_p (fun h1 => ?_) (fun h1 => ?_)))
  · rw [hg, if_pos (by omega)]
    refine ix1 hs hlt hget (conv_u64 (by omega) (add64 (by omega) ?_))
    exact ⟨by push_cast; rfl, rfl⟩
  refine ix1 hs hlt hget (geq (if_p (fun h2 => ?_) (fun h2 => ?_)))
  · rw [hg, if_neg (by omega), if_pos (by omega)]
    exact ⟨rfl, rfl⟩
  rw [if_neg (by omega), if_neg (by omega)] at hg
  refine ix1 hs hlt hget (conv_i64 (by omega) (sub64 (by omega) ?_))
  obtain ⟨k, hk⟩ : ∃ k, h - 191 = k := ⟨_, rfl⟩
  have ek : (h : Int) - 191 = (k : Int) := by omega
  rw [ek]
  rw [hk] at hg
  refine hs.lenV (sub64 (by omega) (sub64 (by omega) (lss (if_p (fun h3 => ?_) (fun h3 => ?_)))))
  · rw [hg, if_pos (by omega)]
    exact hs.lenV ⟨rfl, rfl⟩
  rw [if_neg (by omega)] at hg
  have hrl : (bs.drop (p + 1)).length = bs.length - (p + 1) := List.length_drop
  have hrb : ∀ b ∈ bs.drop (p + 1), b < 256 := fun b hb' => hb b (List.mem_of_mem_drop hb')
  have hgd : ∀ (j : Nat) (hj : j < (bs.drop (p + 1)).length) (hj2 : p + 1 + j < bs.length), (bs.drop (p + 1))[j] = bs[p + 1 + j] := fun j hj hj2 => List.getElem_drop
  generalize hR : bs.drop (p + 1) = rest at *
  refine ⟨fun m far' i w' => w' = w ∧ ∃ j : Nat, j + m = k ∧ i = .int .i64 j ∧ far' = .int .u64 (far (rest.take j) : Nat), k, ⟨rfl, 0, by omega, rfl, by simp [far]⟩, ?_⟩
  rintro m x i w' ⟨rfl, j, hj, rfl, rfl⟩
  refine lss (if_p (fun h6 => ?_) (fun h6 => ?_))
  · have hjl : j < rest.length := by omega
    have hfl := far_lt j (rest.take j) (by simp; omega) (fun y hy => hrb y (List.mem_of_mem_take hy))
    have hpw : (256 : Nat) ^ j ≤ 72057594037927936 := Nat.pow_le_pow_right (n := 256) (by omega) (show j ≤ 7 by omega)
    have hc := hrb _ (List.getElem_mem hjl)
    have ef : far (rest.take j) * 256 + rest[j] = far (rest.take (j + 1)) := by
      rw [List.take_succ_eq_append_getElem hjl, far_snoc]
    have hlt2 : p + 1 + j < bs.length := by omega
    have hval := hgd j hjl hlt2
    generalize far (rest.take j) = FF at *
    refine mulu64 (by omega) (add64 (by omega) (add64 (by omega) ?_))
    rw [show (p : Int) + 1 + (j : Int) = ((p + 1 + j : Nat) : Int) by omega]
    refine ix1 hs hlt2 (bytes_get hlt2) (conv_u64 (by rw [← hval]; omega) (addu64 (by rw [← hval]; omega) ?_))
    refine add64 (by omega) ⟨m - 1, by omega, rfl, j + 1, by omega, by congr 1, ?_⟩
    rw [← ef, ← hval]
    congr 1
  · have hj : j = k := by omega
    subst hj
    refine (begins_c (k := j) (by omega) (by omega) w').use ?_
    rintro _ w2 ⟨rfl, rfl⟩
    have hfl := far_lt j (rest.take j) (by simp; omega) (fun y hy => hrb y (List.mem_of_mem_take hy))
    have hsh := shelfN_le j (by omega)
    have hpw : (256 : Nat) ^ j ≤ 18446744073709551616 := Nat.pow_le_pow_right (n := 256) (by omega) (show j ≤ 8 by omega)
    generalize far (rest.take j) = FF at *
    refine subu64 (by omega) (gtr (if_p (fun h7 => ?_) (fun h7 => ?_)))
    · rw [hg, if_pos (by omega)]
      exact ⟨rfl, rfl⟩
    · rw [hg, if_neg (by omega)]
      refine (begins_c (k := j) (by omega) (by omega) w2).use ?_
      rintro _ w3 ⟨rfl, rfl⟩
      refine addu64 (by omega) (add64 (by omega) (add64 (by omega) ⟨?_, rfl⟩))
      push_cast
      rfl
theorem getWhole_c {w : World} {v : Value} {bs : List Nat} {p : Nat} (hs : Sl w 1 v bs.length (bytes bs)) (hb : ∀ b ∈ bs, b < 256) (hp : p ≤ bs.length) (hn : bs.length ≤ 4611686018427387904) :
    CallF Try.prog 101 #[v, .int .i64 p] w fun r w' => r = .tuple #[.int .i64 (zag (getN bs p).1), .int .i64 (getN bs p).2.1, .int .i64 (getN bs p).2.2] ∧ w' = w := by
  refine C_furlongref03_GetWhole_link ?_
  unfold C_furlongref03_GetWhole
  refine (getNum_c hs hb hp hn).use ?_
  rintro _ w1 ⟨rfl, rfl⟩
  have hlt := getN_lt (p := p) hb
  have hzag : zag (getN bs p).1 = if (getN bs p).1 % 2 = 1 then -(((getN bs p).1 / 2 : Nat) : Int) - 1 else (((getN bs p).1 / 2 : Nat) : Int) := rfl
  generalize (getN bs p).1 = x at *
  generalize (getN bs p).2.1 = n at *
  generalize (getN bs p).2.2 = e at *
  refine ext0 (ext1 (ext2 ?_))
  have e1 : ((x : Int).tmod 2) = ((x % 2 : Nat) : Int) := rfl
  have e2 : ((x : Int).tdiv 2) = ((x / 2 : Nat) : Int) := rfl
  have e3 : IntKind.u64.wrap ((x / 2 : Nat) : Int) = ((x / 2 : Nat) : Int) := Go.IntWalk.u64_in _ (by omega)
  refine quo (by omega) ?_
  rw [e2, e3]
  refine conv_i64 (by omega) (rem (by omega) ?_)
  rw [e1]
  refine eql ⟨fun h w' => w' = w1 ∧ h = .int .i64 (zag x), ?_, if_p (fun h => ?_) (fun h => ?_)⟩
  · rintro _ w' ⟨rfl, rfl⟩
    exact ⟨rfl, rfl⟩
  · refine negu ?_
    rw [Go.IntWalk.i64_in _ (by omega)]
    refine sub64 (by omega) ⟨rfl, ?_⟩
    rw [hzag, if_pos (by omega)]
    congr 1; omega
  · refine ⟨rfl, ?_⟩
    rw [hzag, if_neg (by omega)]
end Go.Proofs.Ytachignmofpngaa
