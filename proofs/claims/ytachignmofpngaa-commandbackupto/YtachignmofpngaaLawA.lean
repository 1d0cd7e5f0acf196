/- The first calls of each law of layer 10 (awake), and what links the writer's bytes and the codec's. -/
import Derived.Test.YtachignmofpngaaRefS
set_option linter.unusedVariables false
set_option linter.unusedSimpArgs false
set_option maxRecDepth 20000
set_option synthInstance.maxSize 1000
namespace Go.Proofs.Ytachignmofpngaa
open Go Go.Vc

theorem enc_toD {e : EntryD} (he : e.ok) (h : 0 ≤ e.kind) : cEntry.enc e.toD = e.enc := by
  have hk := he.2.1
  unfold I64 at hk
  have e1 : layN e.kind.toNat = layN (u64 e.kind) := by congr 1; unfold u64; omega
  show wholes [e.gap, e.client, e.seq] ++ (layN e.kind.toNat ++ (wholes [e.id, e.inc, e.beat, e.since] ++ (wholes e.q ++ (wholes e.n ++ (wholes [e.task.id, e.task.q, e.task.cpu, e.task.mem, e.task.work] ++ (listN e.task.tickets ++ wholeN e.task.state)))))) = e.enc
  rw [e1]
  simp only [EntryD.enc, TaskD.enc, List.append_assoc]
theorem ok_toD {e : EntryD} (he : e.ok) (h : e.err = 0) : cEntry.ok e.toD ∧ 0 ≤ e.kind := by
  obtain ⟨e1, e2, e3, e4, e5, e6, e7, e8⟩ := he
  unfold EntryD.err at h
  split at h
  · simp at h
  · split at h
    · simp at h
    · rename_i h1 h2
      have hk := e2
      unfold I64 at hk
      exact ⟨⟨⟨rfl, e1⟩, ⟨by show 0 ≤ e.kind; omega, by show e.kind ≤ 9223372036854775807; omega⟩, ⟨rfl, e3⟩, ⟨rfl, e4⟩, ⟨rfl, e5⟩, ⟨rfl, e6⟩, ⟨by show e.task.tickets.length ≤ 1024; omega, e7⟩, e8⟩, by omega⟩
theorem enc_lt {e : EntryD} (he : e.ok) (h : 0 ≤ e.kind) : ∀ b ∈ e.enc, b < 256 := by
  rw [← enc_toD he h]; exact cEntry.bytes _
theorem enc_len {e : EntryD} : e.enc.length ≤ 9 * e.task.tickets.length + 500 := by
  have l1 := wholes_le [e.gap, e.client, e.seq] 3 (by simp)
  have l2 := (layN_length (u64 e.kind)).2
  have l3 := wholes_le [e.id, e.inc, e.beat, e.since] 4 (by simp)
  have l4 := wholes_le e.q 7 (by simp [EntryD.q])
  have l5 := wholes_le e.n 5 (by simp [EntryD.n])
  have l6 := wholes_le [e.task.id, e.task.q, e.task.cpu, e.task.mem, e.task.work] 5 (by simp)
  have l7 := listN_length e.task.tickets
  have l8 := (wholeN_length e.task.state).2
  simp only [EntryD.enc, TaskD.enc, List.length_append]; omega

theorem gd_ix1 {P : Program} {w : World} {n i : Nat} {κ : IntKind} {v u : Value} {cells : List Value} {g : Bool} {k : Value → Prop} (hg : g = true) (hs : Sl w 1 v n cells) (hi : i < n) (hv : cells[i]? = some u) (hk : k u) :
    GdP g (fun R => IAdS 1 v (.int κ (i : Int)) R) fun t1 => GdP g (fun R => LdC (At w) t1 R) k := by
  obtain ⟨A, c, rfl, hl, hn, hc⟩ := hs
  cases A with
  | none => have := (hn rfl).1; omega
  | some a =>
    refine gdT (v := .pointer (some (a.add (i * 1)))) hg ⟨by omega, by omega, by simp⟩ (gdT hg ⟨u, fun w' e => ?_, rfl⟩ hk)
    rw [show w' = w from e, Nat.mul_one]
    exact hc a rfl i u hv

def eA : EntryD := ⟨1, 2, 3, 2, 7, 0, 0, 0, 0, 0, 0, 0, 0, 0, 0, 0, 0, 0, 0, 0, ⟨0, 0, 0, 0, 0, [], 0⟩⟩
theorem eA_ok : eA.ok := by
  unfold EntryD.ok TaskD.ok
  simp [eA, EntryD.q, EntryD.n, I64]
theorem eA_enc : eA.enc = [2, 4, 6, 2, 14, 0, 0, 0, 0, 0, 0, 0, 0, 0, 0, 0, 0, 0, 0, 0, 0, 0, 0, 0, 0, 0, 0] := by decide
theorem awake_c (w : World) : CallF Try.prog 10 #[] w fun r w' => r = .bool true ∧ Fr [] w w' := by
  refine C_furlonglaw10_awake_link ?_
  unfold C_furlonglaw10_awake
  refine ⟨(eA.cells (.slice none 0 0)).drop 3, by kernel_rfl, by kernel_rfl, ?_⟩
  refine ⟨eA.cells (.slice none 0 0), by kernel_rfl, by kernel_rfl, ?_⟩
  have hsl : ∀ w : World, Sl w 1 (.slice none 0 0) eA.task.tickets.length (ints eA.task.tickets) := fun w => ⟨none, 0, rfl, rfl, fun _ => ⟨rfl, rfl⟩, fun a h => by cases h⟩
  refine (encodeEntry_c (e := eA) eA_ok (hsl w) (fun h => by simp [eA] at h) (by simp [eA])).use ?_
  rintro _ w1 ⟨v, rfl, hF1, hnew, hown⟩
  have her : eA.err = 0 := by decide
  rw [her, if_pos rfl, if_pos rfl] at hown
  rw [her]
  refine ext0 (ext1 ?_)
  obtain ⟨hok, hk0⟩ := ok_toD eA_ok her
  have hlt := enc_lt eA_ok hk0
  refine (decodeEntry_c (bs := eA.enc) ⟨hown.sl, hown.cap, hlt, by rw [eA_enc]; decide⟩).use ?_
  rintro _ w2 ⟨cs, F, rfl, ha, hFn, hF2⟩
  have hd : decW cEntry noEntry eA.enc = (eA.toD, 0, 0) := by rw [← enc_toD eA_ok hk0]; exact decW_back cEntry noEntry eA.toD hok
  rw [hd] at ha ⊢
  obtain ⟨e', tv', rfl, hed, hok', hsl', hcap', hfp'⟩ := of_entry_rd ha
  have hid : e'.id = 7 := by
    have := congrArg (fun d : DEntry => d.2.2.1) hed
    simp only [EntryD.toD, eA, List.cons.injEq] at this
    exact this.1
  refine ext0 (ext1 (ext2 ?_))
  refine alloc_n (n := 27) (by kernel_rfl) ?_
  intro b w3 l hl hb hB hF3 hs3
  obtain ⟨A', c', rfl, _⟩ := id hsl'
  refine store_all hB (by kernel_rfl) hl (by simp [EntryD.cells]) (by omega) (by simp [EntryD.cells, Value.oneCell']) ?_
  intro w4 hB4 hF4 hs4
  have hF : Fr [] w w4 := ((hF1.t hF2).t hF3).trans hF4 (fun i hi => .inr (by simp at hi; have := (hF1.t hF2).size; omega))
  have hs : Sl w4 1 v eA.enc.length (bytes eA.enc) := hown.sl.fr1 ((hF2.t hF3).mono (Y := [b]) (fun i hi => by simp at hi) |>.t hF4) (fun _ i hi => by have := hown.lt i hi; have := hF2.size; simp; omega)
  rw [eA_enc] at hs
  obtain ⟨Av, cv, rfl, _⟩ := id hs
  refine eql (gdT rfl rfl (gdT rfl (eql rfl) (pick_t rfl ?_)))
  refine gdT rfl rfl (gdT rfl rfl (gdT rfl (gtr rfl) (pick_t rfl ?_)))
  refine gdT rfl rfl (gd_ix1 (P := Try.prog) (i := 0) rfl hs (by decide) (by rfl) (gdT rfl (eql rfl) (pick_t rfl ?_)))
  refine gdT rfl rfl (gd_ix1 (P := Try.prog) (i := 1) rfl hs (by decide) (by rfl) (gdT rfl (eql rfl) (pick_t rfl ?_)))
  refine gdT rfl rfl (gd_ix1 (P := Try.prog) (i := 2) rfl hs (by decide) (by rfl) (gdT rfl (eql rfl) (pick_t rfl ?_)))
  refine gdT rfl rfl (gd_ix1 (P := Try.prog) (i := 3) rfl hs (by decide) (by rfl) (gdT rfl (eql rfl) (pick_t rfl ?_)))
  refine gdT rfl rfl (gd_ix1 (P := Try.prog) (i := 4) rfl hs (by decide) (by rfl) (gdT rfl (eql rfl) (pick_t rfl ?_)))
  refine gdT rfl (fad rfl) (gdT rfl (fad rfl) (gdT rfl (ldC_bk hB4 rfl rfl) (gdT rfl (eql rfl) (pick_t rfl ⟨?_, hF⟩))))
  rw [hid]; rfl

theorem entries_c {w : World} {e : EntryD} {tv : Value} (he : e.ok) (hx : Sl w 1 tv e.task.tickets.length (ints e.task.tickets)) (hlt : 0 < e.task.tickets.length → ∀ i ∈ fp tv, i < w.heap.size) (hb : e.task.tickets.length ≤ 1000000000) :
    CallF Try.prog 3 #[.agg (e.cells tv).toArray] w fun r w' => r = .bool true ∧ Fr [] w w' := by
  obtain ⟨A, c, rfl, _⟩ := id hx
  refine C_furlonglaw10_CommandEntries_link ?_
  unfold C_furlonglaw10_CommandEntries
  refine box' (l := e.cells (.slice A _ c)) rfl ?_
  intro b1 w1 hb1 hB1 hF1 hs1
  refine (awake_c w1).use ?_
  rintro _ w2 ⟨rfl, hF2⟩
  have hF12 := hF1.t hF2
  have hB2 := hB1.fr hF2 (by simp)
  refine notB (if_f rfl ?_)
  refine ldA_bk hB2 (by simp [EntryD.cells]) ?_
  have hx2 := hx.fr1 hF12 (fun _ i _ => by simp)
  refine (twinEntry_c (e := e) (tv := .slice A _ c) hx2 hb).use ?_
  rintro _ w3 ⟨tv', rfl, hN3⟩
  obtain ⟨A3, c3, rfl⟩ := hN3.own.len
  refine alloc_n (n := 27) (by kernel_rfl) ?_
  intro b4 w4 l hl hb4 hB4 hF4 hs4
  refine store_all hB4 (by kernel_rfl) hl (by simp [EntryD.cells]) (by omega) (by simp [EntryD.cells, Value.oneCell']) ?_
  intro w5 hB5 hF5 hs5
  refine ldA_bk hB5 (by simp [EntryD.cells]) ?_
  have h3 := hN3.fr.size
  have hF35 : Fr [b4] w3 w5 := (hF4.mono (fun i hi => by simp at hi)).t hF5
  have ho5 := hN3.own.fr hF35 (fun i hi => by have := hN3.own.lt i hi; simp; omega)
  refine (encodeEntry_c (e := e) (tv := .slice A3 _ c3) he ho5.sl (fun _ => ho5.lt) hb).use ?_
  rintro _ w6 ⟨v6, rfl, hF6, hn6, ho6⟩
  refine ext0 (ext1 ?_)
  have hF25 : Fr [] w2 w5 := hN3.fr.trans hF35 (fun i hi => .inr (by simp at hi; omega))
  have hF26 := hF25.t hF6
  refine ldA_bk (hB2.fr hF26 (by simp)) (by simp [EntryD.cells]) ?_
  have hx6 := hx2.fr1 hF26 (fun _ i _ => by simp)
  refine (rentry_c (e := e) (tv := .slice A _ c) he hx6 (fun h0 i hi => by have := hlt h0 i hi; have := (hF12.t hF26).size; omega) hb).use ?_
  rintro _ w7 ⟨v7, rfl, hF7, hn7, ho7⟩
  refine ext0 (ext1 ?_)
  have ho67 := ho6.fr hF7 (fun i _ => by simp)
  have hbs : ∀ b ∈ (if e.err = 0 then e.enc else []), b < 256 := by
    split
    · rename_i h0; exact enc_lt he (ok_toD he h0).2
    · simp
  have hsz : (if e.err = 0 then e.enc.length else 0) = (if e.err = 0 then e.enc else []).length := by split <;> rfl
  rw [hsz] at ho67 ho7
  refine (bytes_c ho67.sl hbs ho7.sl hbs).use ?_
  rintro _ w8 ⟨rfl, rfl⟩
  rw [decide_eq_true rfl]
  refine gdT rfl rfl (gdT rfl rfl (gdT rfl (eql rfl) (pick_t rfl ?_)))
  rw [decide_eq_true rfl]
  have hF57 := hF6.t hF7
  refine gdT rfl (ldA_bk (hB5.fr hF57 (by simp)) (by simp [EntryD.cells]) rfl) (gdT rfl (ldA_bk (hB2.fr (hF26.t hF7) (by simp)) (by simp [EntryD.cells]) rfl) (gT rfl ?_))
  refine (sameEntry_c (e := e) (e' := e) (tv := .slice A3 _ c3) (tv' := .slice A _ c) (ho5.sl.fr1 hF57 (fun _ i _ => by simp)) (hx6.fr1 hF7 (fun _ i _ => by simp)) (by omega)).use ?_
  rintro _ w9 ⟨rfl, hF9⟩
  rw [decide_eq_true rfl]
  exact pick_t rfl ⟨rfl, ((hF12.t hF26).t hF7).t hF9⟩
end Go.Proofs.Ytachignmofpngaa
