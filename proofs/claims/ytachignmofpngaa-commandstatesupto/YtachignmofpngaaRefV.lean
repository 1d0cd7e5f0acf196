/- The contract of the reference's writer of states: furlongref10.State. -/
import Derived.Test.YtachignmofpngaaRefT2
set_option linter.unusedVariables false
set_option linter.unusedSimpArgs false
set_option maxRecDepth 20000
namespace Go.Proofs.Ytachignmofpngaa
open Go Go.Vc

section
variable {P : Program} {w : World} {b : Bool} {k : Value → Prop} {T : TypeId} {cx cy : Bool} {bx ox o : Nat} {Tx : TypeId} {lx : List Value}
theorem or_gt {A : Option Addr} {n c m : Nat} (hx : Bk w bx Tx lx) (h1 : lx[ox + o]? = some (.slice A n c)) (hk : k (.bool (b || decide (m < n)))) :
    GdP (isB (.bool b) false) (fun R => FAd o (.pointer (some ⟨bx, ox, none⟩)) R) fun t1 => GdP (isB (.bool b) false) (fun R => LdC (At w) t1 R) fun t2 => GdP (isB (.bool b) false) (fun R => Len t2 R) fun t3 =>
    GdP (isB (.bool b) false) (fun R => Bin P (At w) .gtr T cx cy t3 (.int .i64 m) R) fun t7 => Pick (.bool b) (.bool true) t7 k := by
  have e : decide ((m : Int) < n) = decide (m < n) := decide_eq_decide.2 (by omega)
  cases b with
  | false => exact gdT rfl (fad rfl) (gdT rfl (ldC_bk hx h1 rfl) (gdT rfl (len rfl) (gdT rfl (gtr rfl) (pick_f rfl (by rw [e]; simpa using hk)))))
  | true => exact gdF rfl (gdF rfl (gdF rfl (gdF rfl (pick_t rfl (by simpa using hk)))))
end
theorem rtaskR_c {w : World} {cs : List Value} {a : DTask} {F : List Nat} (hr : sTask.rd w cs a F) (hb : a.2.1.length ≤ 1000000000) :
    CallF Try.prog 41 #[.agg cs.toArray] w fun r w' => Row w w' r (cTask.enc a) := by
  have hlt := sTask.lt hr
  obtain ⟨t, tv, rfl, rfl, hok, hsl, hcap, hfp⟩ := of_task_rd hr
  rw [enc_task]
  exact rtask_c hok hsl (fun h0 i hi => hlt i (hfp h0 i hi)) hb
theorem rqueueR_c {w : World} {cs : List Value} {a : List Int} {F : List Nat} (hr : (sInt.rep 7).rd w cs a F) : CallF Try.prog 39 #[.agg cs.toArray] w fun r w' => New w w' 2 1 r 7 (ints a) ∧ a.length = 7 ∧ ∀ y ∈ a, I64 y := by
  obtain ⟨hl, rfl, rfl, hI⟩ := of_rep hr
  match a, hl with
  | [a0, a1, a2, a3, a4, a5, a6], _ => exact rqueue_c.use fun r w' h => ⟨h, rfl, hI⟩
theorem rnodeR_c {w : World} {cs : List Value} {a : List Int} {F : List Nat} (hr : (sInt.rep 5).rd w cs a F) : CallF Try.prog 40 #[.agg cs.toArray] w fun r w' => New w w' 2 1 r 5 (ints a) ∧ a.length = 5 ∧ ∀ y ∈ a, I64 y := by
  obtain ⟨hl, rfl, rfl, hI⟩ := of_rep hr
  match a, hl with
  | [a0, a1, a2, a3, a4], _ => exact rnode_c.use fun r w' h => ⟨h, rfl, hI⟩
end Go.Proofs.Ytachignmofpngaa
