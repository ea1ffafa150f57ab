/- slot.own: a copy of a change -/
import Derived.Test.YtplafccjgbeojaaClone
import Derived.Test.YtplafccjgbeojaaReg
open Go Go.RowKit
namespace Go.Proofs.Ytplafccjgbeojaa
open Pm

set_option maxRecDepth 100000 in
set_option maxHeartbeats 1600000 in
theorem own_calls (r : List Value) (c : Change) (P : Nat → Prop) (w : World) (h : ChangeRow w P r c) (hb : c.names.length ≤ 1000000 ∧ c.old.length ≤ 1000000 ∧ c.new.length ≤ 1000000) :
    Calls Try.prog 25 #[.agg r.toArray] w fun e w' => ∃ r', e = .returned (.agg r'.toArray) ∧ ChangeRow w' (Fresh w) r' c ∧ Below w.heap.size w w' := by
  obtain ⟨na, nn, nc, oa, on, oc, wa, wn, wc, rfl, hn, ho, hw⟩ := h
  generalize hvn : Value.slice na nn nc = vn at *
  generalize hvo : Value.slice oa on oc = vo at *
  generalize hvw : Value.slice wa wn wc = vw at *
  clear hvn hvo hvw
  have fn : ∀ W, Below w.heap.size w W → StrsAt W P vn c.names := fun W h => hn.frame (Same.of_below h)
  have fo : ∀ W, Below w.heap.size w W → RowAt W P vo c.old := fun W h => ho.frame (Same.of_below h)
  have fw : ∀ W, Below w.heap.size w W → RowAt W P vw c.new := fun W h => hw.frame (Same.of_below h)
  clear hn ho hw
  go_enter Try.func25, Try.ntmps25
  go_wp2_with fail
  refine wp_region_plan (fun W => Below w.heap.size w W ∧ W.heap[w.heap.size]? = some (.cells #[Value.int IntKind.i64 c.kind, Value.string c.table, vn, vo, vw] 48 (0, 0)) ∧ W.heap[w.heap.size + 1]? = some (.cells #[Value.int IntKind.i64 0, Value.string { data := #[] }, Value.slice none 0 0, Value.slice none 0 0, Value.slice none 0 0] 48 (0, 0)))
    [10, 12, 14] [(0, 0), (1, 1), (3, 0), (4, 1), (6, 0), (7, 1), (2, 2), (9, 0), (5, 2), (8, 2), (10, 2), (11, 0), (12, 2), (13, 0), (14, 2)] (by kernel_rfl) (by kernel_rfl) (fun _ _ d _ _ h => by cases d <;> exact h) ?_
  have hS0 := two_new w (.cells #[Value.int IntKind.i64 c.kind, Value.string c.table, vn, vo, vw] 48) (.cells #[Value.int IntKind.i64 0, Value.string { data := #[] }, Value.slice none 0 0, Value.slice none 0 0, Value.slice none 0 0] 48)
  have hS := (show _ ∧ _ from ⟨(((Below.refl _ w).alloc (Nat.le_refl _) (.cells #[Value.int IntKind.i64 c.kind, Value.string c.table, vn, vo, vw] 48)).alloc (by simp) (.cells #[Value.int IntKind.i64 0, Value.string { data := #[] }, Value.slice none 0 0, Value.slice none 0 0, Value.slice none 0 0] 48)).drew, hS0⟩)
  clear hS0
  repeat (first | (refine plan_soft rfl rfl rfl ?_; intro K hK; go_big_quiet_op; go_big_quiet_on) | (refine plan_load hS rfl rfl rfl rfl (fun w' hw' => loadVar_one (by kernel_rfl) (((bfacts hw'.2.1).1 _).trans rfl)) ?_; (try simp only [Act.put, List.setIfInBounds_toArray, List.set_cons_zero, List.set_cons_succ])))
  refine plan_do rfl rfl ?_; intro K hK
  go_wp2_with fail
  refine (clone_strs vn c.names P _ (fn _ hS.1) hb.1).mono ?_
  rintro e w1 ⟨a1, n1, e1, rfl, h1, hb1⟩
  have hS1 := (show _ ∧ _ ∧ _ from ⟨Below.step hS.1 (Nat.le_refl _) hb1, Below.blk hb1 hS.2.1, Below.blk hb1 hS.2.2⟩)
  refine hK _ _ ⟨fun _ _ => hS1, ?_⟩
  clear hK K hS
  have hS := hS1
  clear hS1
  try simp only [Act.put, List.setIfInBounds_toArray, List.set_cons_zero, List.set_cons_succ]
  (refine plan_soft rfl rfl rfl ?_; intro K hK; go_big_quiet_op; go_big_quiet_on)
  refine plan_do rfl rfl ?_; intro K hK
  go_wp2_with fail
  refine (row_calls vo c.old P _ (fo _ hS.1) hb.2.1).mono ?_
  rintro e w2 ⟨a2, n2, e2, rfl, h2, hb2⟩
  have hS2 := (show _ ∧ _ ∧ _ from ⟨Below.step hS.1 (Nat.le_refl _) hb2, Below.blk hb2 hS.2.1, Below.blk hb2 hS.2.2⟩)
  refine hK _ _ ⟨fun _ _ => hS2, ?_⟩
  clear hK K hS
  have hS := hS2
  clear hS2
  try simp only [Act.put, List.setIfInBounds_toArray, List.set_cons_zero, List.set_cons_succ]
  refine plan_do rfl rfl ?_; intro K hK
  go_wp2_with fail
  refine (row_calls vw c.new P _ (fw _ hS.1) hb.2.2).mono ?_
  rintro e w3 ⟨a3, n3, e3, rfl, h3, hb3⟩
  have hS3 := (show _ ∧ _ ∧ _ from ⟨Below.step hS.1 (Nat.le_refl _) hb3, Below.blk hb3 hS.2.1, Below.blk hb3 hS.2.2⟩)
  refine hK _ _ ⟨fun _ _ => hS3, ?_⟩
  clear hK K hS
  have hS := hS3
  clear hS3
  try simp only [Act.put, List.setIfInBounds_toArray, List.set_cons_zero, List.set_cons_succ]
  obtain ⟨hW, hA, hZ⟩ := hS
  obtain ⟨qc, qf, ql⟩ := bfacts hA
  obtain ⟨rc, rf, rl⟩ := bfacts hZ
  repeat (first | (refine plan_soft rfl rfl rfl ?_; intro K hK; go_big_quiet_op; go_big_quiet_on) | (refine plan_do rfl rfl ?_; intro K hK; go_wp2_with fail; refine ⟨fun h => absurd h (by decide), ?_⟩))
  show Exit.then _ _ _ _ _
  go_wp2
  refine bodyPost_ret (v := .agg #[.int .i64 c.kind, .string c.table, .slice a1 n1 e1, .slice a2 n2 e2, .slice a3 n3 e3]) (by simp [results, Try.results25, go_sem, rc, rf]) rfl ?_
  have z1 := hb1.size
  simp only [World.size_drew, World.size_alloc] at z1
  have e1' : ∀ b, w.heap.size + 2 ≤ b → ¬ b = w.heap.size ∧ ¬ b = w.heap.size + 1 := fun b hb => by omega
  have sF : ∀ W, Same (fun b => w.heap.size + 2 ≤ b) W w3 → Same (fun b => w.heap.size + 2 ≤ b) W ((((((((w3.setCell ⟨w.heap.size, 2, none⟩ (.slice a1 n1 e1)).setCell ⟨w.heap.size, 3, none⟩ (.slice a2 n2 e2)).setCell ⟨w.heap.size, 4, none⟩ (.slice a3 n3 e3)).setCell ⟨w.heap.size + 1, 0, none⟩ (.int .i64 c.kind)).setCell ⟨w.heap.size + 1, 1, none⟩ (.string c.table)).setCell ⟨w.heap.size + 1, 2, none⟩ (.slice a1 n1 e1)).setCell ⟨w.heap.size + 1, 3, none⟩ (.slice a2 n2 e2)).setCell ⟨w.heap.size + 1, 4, none⟩ (.slice a3 n3 e3)) :=
    fun W h => ((((((((h.set (by simp) _).set (by simp) _).set (by simp) _).set (by simp) _).set (by simp) _).set (by simp) _).set (by simp) _).set (by simp) _)
  have up : ∀ {v : Value}, ∀ W, w.heap.size + 2 ≤ W.heap.size → ∀ b, Fresh W b → w.heap.size + 2 ≤ b := fun W h b hb => Nat.le_trans h hb
  have z2 := hb2.size
  refine ⟨[.int .i64 c.kind, .string c.table, .slice a1 n1 e1, .slice a2 n2 e2, .slice a3 n3 e3], rfl, ⟨_, _, _, _, _, _, _, _, _, rfl, ?_, ?_, ?_⟩, ?_⟩
  · exact ((h1.mono (fun b hb _ => by simpa using hb)).frame (sF w1 ((Same.of_below hb2).trans (Same.of_below hb3)))).mono (fun b hb _ => by unfold Fresh; omega)
  · exact ((h2.mono (fun b hb _ => (by unfold Fresh at hb; omega : w.heap.size + 2 ≤ b))).frame (sF w2 (Same.of_below hb3))).mono (fun b hb _ => by unfold Fresh; omega)
  · exact ((h3.mono (fun b hb _ => (by unfold Fresh at hb; omega : w.heap.size + 2 ≤ b))).frame (sF w3 (Same.refl _ _))).mono (fun b hb _ => by unfold Fresh; omega)
  · exact (((((((hW.setCell (by simp) _).setCell (by simp) _).setCell (by simp) _).setCell (by simp) _).setCell (by simp) _).setCell (by simp) _).setCell (by simp) _).setCell (by simp) _
end Go.Proofs.Ytplafccjgbeojaa
