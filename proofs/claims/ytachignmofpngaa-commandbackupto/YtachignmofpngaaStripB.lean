/- Contract of strip.LayInt. -/
import Derived.Test.YtachignmofpngaaStripA
set_option linter.unusedVariables false
set_option linter.unusedSimpArgs false
set_option maxRecDepth 20000
namespace Go.Proofs.Ytachignmofpngaa
open Go Go.Vc

/-- A whole number as a number. -/
def zig (x : Int) : Nat := if x < 0 then (2 * (-x - 1) + 1).toNat else (2 * x).toNat
def I64 (x : Int) : Prop := -9223372036854775808 ≤ x ∧ x ≤ 9223372036854775807
theorem zig_le {x : Int} (h : I64 x) : zig x ≤ 18446744073709551615 := by unfold zig I64 at *; split <;> omega
def wholeN (x : Int) : List Nat := layN (zig x)
theorem wholeN_length (x : Int) : 1 ≤ (wholeN x).length ∧ (wholeN x).length ≤ 9 := layN_length _

theorem layInt_c {x : Int} {n : Nat} {v : Value} {l : List Value} (hx : I64 x) (w : World) (hs : Sl w 1 v n l) (h1 : ∀ u ∈ l, u.oneCell' = true) (hn : n ≤ 1000000000000) :
    CallF Try.prog 74 #[v, .int .i64 x] w fun r w' => New w w' 5 1 r (n + (wholeN x).length) (l ++ bytes (wholeN x)) := by
  have hz := zig_le hx
  unfold I64 at hx
  refine C_strip_LayInt_link ?_
  unfold C_strip_LayInt
  refine lss (if_p (fun hlt => ?_) (fun hge => ?_))
  · have e : zig x = (2 * (-x - 1) + 1).toNat := by simp [zig, hlt]
    refine not64 hx ?_
    refine conv_u64 (by omega) (mulu64 (by omega) (addu64 (by omega) ?_))
    have e2 : (2 : Int) * (-x - 1) + 1 = (zig x : Int) := by rw [e]; omega
    rw [e2]
    exact (lay_c hz w hs h1 hn).use fun v w' h => h
  · have e : zig x = (2 * x).toNat := by simp [zig, hge]
    refine conv_u64 (by omega) (mulu64 (by omega) ?_)
    have e2 : (2 : Int) * x = (zig x : Int) := by rw [e]; omega
    rw [e2]
    exact (lay_c hz w hs h1 hn).use fun v w' h => h
end Go.Proofs.Ytachignmofpngaa
