/- Laws for the operations on whole numbers, tests, guards and calls, in the form in which the contracts use them. -/
import Derived.Test.YtmlaconjeplhpaaVcMem
import Derived.IntWalk
set_option linter.unusedVariables false
set_option linter.unusedSimpArgs false
namespace Go.Vc
open Go Go.IntWalk
section
variable {P : Program} {S : World → Prop} {t : TypeId} {cx cy : Bool} {a b : Int} {κ κ' : IntKind} {k : Value → Prop}
theorem add64 (h0 : -9223372036854775808 ≤ a + b ∧ a + b ≤ 9223372036854775807) (h : k (.int .i64 (a + b))) : Bin P S .add t cx cy (.int .i64 a) (.int .i64 b) k := ⟨rfl, by rw [i64_in _ h0]; exact h⟩
theorem sub64 (h0 : -9223372036854775808 ≤ a - b ∧ a - b ≤ 9223372036854775807) (h : k (.int .i64 (a - b))) : Bin P S .sub t cx cy (.int .i64 a) (.int .i64 b) k := ⟨rfl, by rw [i64_in _ h0]; exact h⟩
theorem mul64 (h0 : -9223372036854775808 ≤ a * b ∧ a * b ≤ 9223372036854775807) (h : k (.int .i64 (a * b))) : Bin P S .mul t cx cy (.int .i64 a) (.int .i64 b) k := ⟨rfl, by rw [i64_in _ h0]; exact h⟩
theorem addu64 (h0 : 0 ≤ a + b ∧ a + b ≤ 18446744073709551615) (h : k (.int .u64 (a + b))) : Bin P S .add t cx cy (.int .u64 a) (.int .u64 b) k := ⟨rfl, by rw [u64_in _ h0]; exact h⟩
theorem subu64 (h0 : 0 ≤ a - b ∧ a - b ≤ 18446744073709551615) (h : k (.int .u64 (a - b))) : Bin P S .sub t cx cy (.int .u64 a) (.int .u64 b) k := ⟨rfl, by rw [u64_in _ h0]; exact h⟩
theorem mulu64 (h0 : 0 ≤ a * b ∧ a * b ≤ 18446744073709551615) (h : k (.int .u64 (a * b))) : Bin P S .mul t cx cy (.int .u64 a) (.int .u64 b) k := ⟨rfl, by rw [u64_in _ h0]; exact h⟩
theorem addw (h : k (.int κ (κ.wrap (a + b)))) : Bin P S .add t cx cy (.int κ a) (.int κ b) k := ⟨rfl, h⟩
theorem subw (h : k (.int κ (κ.wrap (a - b)))) : Bin P S .sub t cx cy (.int κ a) (.int κ b) k := ⟨rfl, h⟩
theorem mulw (h : k (.int κ (κ.wrap (a * b)))) : Bin P S .mul t cx cy (.int κ a) (.int κ b) k := ⟨rfl, h⟩
theorem lss (h : k (.bool (decide (a < b)))) : Bin P S .lss t cx cy (.int κ a) (.int κ b) k := ⟨rfl, h⟩
theorem leq (h : k (.bool (decide (a ≤ b)))) : Bin P S .leq t cx cy (.int κ a) (.int κ b) k := ⟨rfl, h⟩
theorem gtr (h : k (.bool (decide (b < a)))) : Bin P S .gtr t cx cy (.int κ a) (.int κ b) k := ⟨rfl, h⟩
theorem geq (h : k (.bool (decide (b ≤ a)))) : Bin P S .geq t cx cy (.int κ a) (.int κ b) k := ⟨rfl, h⟩
theorem eql (h : k (.bool (decide (a = b)))) : Bin P S .eql t cx cy (.int κ a) (.int κ b) k := ⟨rfl, by rw [show (a == b) = decide (a = b) from rfl]; exact h⟩
theorem neq (h : k (.bool (decide (a ≠ b)))) : Bin P S .neq t cx cy (.int κ a) (.int κ b) k := ⟨rfl, by rw [show (a != b) = decide (a ≠ b) from by rw [bne]; by_cases e : a = b <;> simp [e]]; exact h⟩
theorem quo (h0 : b ≠ 0) (h : k (.int κ (κ.wrap (a.tdiv b)))) : Bin P S .quo t cx cy (.int κ a) (.int κ b) k := ⟨rfl, h0, h⟩
theorem rem (h0 : b ≠ 0) (h : k (.int κ (a.tmod b))) : Bin P S .rem t cx cy (.int κ a) (.int κ b) k := ⟨rfl, h0, h⟩
/-- a << b of a uint64, nothing lost. -/
theorem shlu64 {n : Nat} (hb : b = n) (hn : n ≤ 64) (h0 : 0 ≤ a * 2 ^ n ∧ a * 2 ^ n ≤ 18446744073709551615) (h : k (.int .u64 (a * 2 ^ n))) : Bin P S .shl t cx cy (.int .u64 a) (.int κ' b) k := by
  subst hb
  refine ⟨by omega, ?_⟩
  have : min ((n : Int).toNat) IntKind.u64.bits = n := by simp [IntKind.bits]; omega
  rw [this, u64_in _ h0]
  exact h
theorem shlw {n : Nat} (hb : b = n) (hn : n ≤ κ.bits) (h : k (.int κ (κ.wrap (a * 2 ^ n)))) : Bin P S .shl t cx cy (.int κ a) (.int κ' b) k := by
  subst hb
  refine ⟨by omega, ?_⟩
  have : min ((n : Int).toNat) κ.bits = n := by simp; omega
  rw [this]
  exact h
theorem shrn {n : Nat} (hb : b = n) (hn : n ≤ κ.bits) (ha : 0 ≤ a) (h : k (.int κ (a / 2 ^ n))) : Bin P S .shr t cx cy (.int κ a) (.int κ' b) k := by
  subst hb
  refine ⟨by omega, ?_⟩
  have : min ((n : Int).toNat) κ.bits = n := by simp; omega
  rw [this, Int.fdiv_eq_ediv_of_nonneg _ (Int.le_of_lt (Int.pow_pos (by omega)))]
  exact h
theorem conv_u8 (h : k (.int .u8 (a % 256))) : ConvI .u8 (.int κ a) k := by
  show k _
  rw [IntKind.wrap_u8]; exact h
theorem conv_u8_in (h0 : 0 ≤ a ∧ a ≤ 255) (h : k (.int .u8 a)) : ConvI .u8 (.int κ a) k := by
  show k _
  rw [u8_in _ h0]; exact h
theorem conv_i64 (h0 : -9223372036854775808 ≤ a ∧ a ≤ 9223372036854775807) (h : k (.int .i64 a)) : ConvI .i64 (.int κ a) k := by
  show k _
  rw [i64_in _ h0]; exact h
theorem conv_u64 (h0 : 0 ≤ a ∧ a ≤ 18446744073709551615) (h : k (.int .u64 a)) : ConvI .u64 (.int κ a) k := by
  show k _
  rw [u64_in _ h0]; exact h
theorem conv_w (h : k (.int κ (κ.wrap a))) : ConvI κ (.int κ' a) k := h
end
theorem not64 {P : Program} {S : World → Prop} {x : Int} {k : Value → Prop} (hx : -9223372036854775808 ≤ x ∧ x ≤ 9223372036854775807) (h : k (.int .i64 (-x - 1))) : Un P S .xor (.int .i64 x) k := by
  show k _
  have e0 : (BitVec.ofInt 64 (-1) ^^^ BitVec.ofInt 64 x).toNat = 18446744073709551615 - (x % 18446744073709551616).toNat := by
    have h1 : BitVec.ofInt 64 (-1) = BitVec.allOnes 64 := by decide
    rw [h1, BitVec.allOnes_xor, BitVec.toNat_not, BitVec.toNat_ofInt]
    rfl
  have e : IntKind.i64.wrap (BitVec.ofInt IntKind.i64.bits (if IntKind.i64.signed then -1 else IntKind.i64.max) ^^^ BitVec.ofInt IntKind.i64.bits x).toNat = -x - 1 := by
    show IntKind.i64.wrap ((BitVec.ofInt 64 (-1) ^^^ BitVec.ofInt 64 x).toNat : Int) = -x - 1
    rw [e0, IntKind.wrap_i64]
    omega
  rw [e]
  exact h
theorem notB {P : Program} {S : World → Prop} {b : Bool} {k : Value → Prop} (h : k (.bool !b)) : Un P S .not (.bool b) k := h
section
variable {p : Prop} [Decidable p] {A B : Prop} {b : Bool}
theorem if_p (h1 : p → A) (h2 : ¬p → B) : If (.bool (decide p)) A B := ⟨fun h => h1 (of_decide_eq_true h), fun h => h2 (of_decide_eq_false h)⟩
theorem if_b (h1 : b = true → A) (h2 : b = false → B) : If (.bool b) A B := ⟨h1, h2⟩
theorem if_t (hp : b = true) (h : A) : If (.bool b) A B := ⟨fun _ => h, fun h' => by rw [hp] at h'; cases h'⟩
theorem if_f (hp : b = false) (h : B) : If (.bool b) A B := ⟨fun h' => (by rw [hp] at h'; cases h'), fun _ => h⟩
end
theorem gdT {g : Bool} {A : (Value → Prop) → Prop} {k : Value → Prop} {v : Value} (hg : g = true) (h : A (fun u => u = v)) (hk : k v) : GdP g A k := ⟨v, fun _ => h, fun h' => (by rw [hg] at h'; cases h'), hk⟩
theorem gdF {g : Bool} {A : (Value → Prop) → Prop} {k : Value → Prop} (hg : g = false) (hk : k undef) : GdP g A k := ⟨undef, fun h' => (by rw [hg] at h'; cases h'), fun _ => rfl, hk⟩
theorem gT {g : Bool} {A : (Value → World → Prop) → Prop} {w : World} {k : Value → World → Prop} (hg : g = true) (h : A k) : Gd g A w k := ⟨k, fun _ => h, fun h' => (by rw [hg] at h'; cases h'), fun _ _ h => h⟩
theorem gF {g : Bool} {A : (Value → World → Prop) → Prop} {w : World} {k : Value → World → Prop} (hg : g = false) (h : k undef w) : Gd g A w k := ⟨k, fun h' => (by rw [hg] at h'; cases h'), fun _ => h, fun _ _ h => h⟩
theorem pick_t {c : Bool} {a b : Value} {k : Value → Prop} (hc : c = true) (h : k a) : Pick (.bool c) a b k := by subst hc; exact h
theorem pick_f {c : Bool} {a b : Value} {k : Value → Prop} (hc : c = false) (h : k b) : Pick (.bool c) a b k := by subst hc; exact h
theorem nilC {a : Addr} {k : Value → Prop} (h : k (.pointer (some a))) : NilC (.pointer (some a)) k := h
theorem fad {b o off : Nat} {k : Value → Prop} (h : k (.pointer (some ⟨b, o + off, none⟩))) : FAd off (.pointer (some ⟨b, o, none⟩)) k := by
  show k _
  rw [Addr.add_lit]; exact h
theorem len {A : Option Addr} {n c : Nat} {k : Value → Prop} (h : k (.int .i64 n)) : Len (.slice A n c) k := h
theorem ext {vs : Array Value} {i : Nat} {v : Value} {k : Value → Prop} (h : vs[i]? = some v) (hk : k v) : Ext (.tuple vs) i k := by
  unfold Ext; simp only [h]; exact hk
theorem ext0 {a : Value} {l : List Value} {k : Value → Prop} (h : k a) : Ext (.tuple (List.toArray (a :: l))) 0 k := h
theorem ext1 {a b : Value} {l : List Value} {k : Value → Prop} (h : k b) : Ext (.tuple (List.toArray (a :: b :: l))) 1 k := h
theorem ext2 {a b c : Value} {l : List Value} {k : Value → Prop} (h : k c) : Ext (.tuple (List.toArray (a :: b :: c :: l))) 2 k := h
theorem CallF.use {P : Program} {f : FuncId} {args : Array Value} {w : World} {Q k : Value → World → Prop} (h : CallF P f args w Q) (hk : ∀ v w', Q v w' → k v w') : CallF P f args w k := h.mono hk
end Go.Vc
