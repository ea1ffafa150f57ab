/- catalog: the copy of a table; All, Clone, At -/
import Derived.Test.YtplafccjgbeojaaCat1
open Go Go.RowKit
namespace Go.Proofs.Ytplafccjgbeojaa
open Pm

/-- the bounds within which tables are copied -/
def Small (t : Tab) : Prop := t.cols.length ≤ 1000000 ∧ t.idx.length ≤ 1000000 ∧ ∀ i, i < t.idx.length → (nth t.idx dIdx i).cols.length ≤ 1000000

set_option maxRecDepth 100000 in
set_option maxHeartbeats 800000 in
theorem tab_copied (r : List Value) (t : Tab) (P : Nat → Prop) (w : World) (h : TabRow w P r t) (hb : Small t) :
    Calls Try.prog 63 #[.agg r.toArray] w fun e w' => ∃ r', e = .returned (.agg r'.toArray) ∧ TabRow w' (Fresh w) r' t ∧ Below w.heap.size w w' := by
  obtain ⟨a, n, c, a', n', c', rfl, hc, hx⟩ := h
  have fc : ∀ W, Below w.heap.size w W → ColsAt W P (.slice a n c) t.cols := fun W h => hc.frame (Same.of_below h)
  have fx : ∀ W, Below w.heap.size w W → IdxsAt W P (.slice a' n' c') t.idx := fun W h => hx.frame (Same.of_below h)
  clear hc hx
  obtain ⟨b1, b2, b3⟩ := hb
  have B3 := Lib.hid b3
  clear b3
  go_enter Try.func63, Try.ntmps63
  go_wp2_with fail
  refine (clone_cols _ t.cols P _ (fc _ (below_two w _ _)) b1).mono ?_
  rintro e w1 ⟨a1, n1, c1, rfl, h1, hb1⟩
  obtain ⟨qA, qZ, hW, hz⟩ := two_blks hb1
  obtain ⟨qc, qf, ql⟩ := bfacts qA
  have h1' := h1.mono (Q := fun b => w.heap.size + 2 ≤ b) (fun b hb _ => by simpa [Fresh] using hb)
  clear hb1 h1 fc
  go_wp2_with fail
  have qA1 : (w1.setCell ⟨w.heap.size, 2, none⟩ (.slice a1 n1 c1)).heap[w.heap.size]? = some (.cells #[.int .i64 t.id, .string t.name, .slice a1 n1 c1, .slice a' n' c'] 110 (0, 0)) := blk_set qA 2 _
  have qZ1 := blk_set_ne qZ (a := ⟨w.heap.size, 2, none⟩) (by simp) (.slice a1 n1 c1)
  have hW1 : Below w.heap.size w (w1.setCell ⟨w.heap.size, 2, none⟩ (.slice a1 n1 c1)) := by (repeat (first | with_reducible exact Below.refl _ _ | with_reducible assumption | (with_reducible refine Below.setCell ?_ (by first | (simp; done) | (simp; omega)) _) | (with_reducible refine Below.alloc ?_ (by first | (simp; done) | (simp; omega)) _) | with_reducible refine Below.drew ?_))
  refine (each_idx _ t.idx P _ (fx _ hW1) b2 B3.out).mono ?_
  rintro e w2 ⟨a2, n2, c2, rfl, h2, hb2⟩
  have h1'' := h1'.frame (((Same.refl _ _).set (by simp) _).trans (Same.of_below hb2) : Same _ w1 w2)
  have h2' := h2.mono (Q := fun b => w.heap.size + 2 ≤ b) (fun b hb _ => by simp [Fresh] at hb; omega)
  obtain ⟨rc, rf, rl⟩ := bfacts (Below.blk hb2 qA1)
  obtain ⟨tc, tf, tl⟩ := bfacts (Below.blk hb2 qZ1)
  have hW2 := Below.step hW1 (Nat.le_refl _) hb2
  clear qA qZ qA1 qZ1 qc qf hb2 h1' h2 fx hW hW1 b1 b2 B3 hz
  go_wp2
  refine bodyPost_ret (v := .agg #[.int .i64 t.id, .string t.name, .slice a1 n1 c1, .slice a2 n2 c2]) (by simp [results, Try.results63, go_sem, tc, tf]) rfl ⟨[.int .i64 t.id, .string t.name, .slice a1 n1 c1, .slice a2 n2 c2], rfl, ⟨_, _, _, _, _, _, rfl, ?_, ?_⟩, ?_⟩
  · exact (h1''.frame (by (repeat (first | with_reducible exact Same.refl _ _ | with_reducible assumption | (with_reducible refine Same.set ?_ (by first | (simp; done) | (simp; omega) | (unfold Fresh; omega)) _) | with_reducible refine Same.alloc ?_ _ | with_reducible refine Same.drew ?_)))).mono (fun b hb _ => by unfold Fresh; omega)
  · exact (h2'.frame (by (repeat (first | with_reducible exact Same.refl _ _ | with_reducible assumption | (with_reducible refine Same.set ?_ (by first | (simp; done) | (simp; omega) | (unfold Fresh; omega)) _) | with_reducible refine Same.alloc ?_ _ | with_reducible refine Same.drew ?_)))).mono (fun b hb _ => by unfold Fresh; omega)
  · (repeat (first | with_reducible exact Below.refl _ _ | with_reducible assumption | (with_reducible refine Below.setCell ?_ (by first | (simp; done) | (simp; omega)) _) | (with_reducible refine Below.alloc ?_ (by first | (simp; done) | (simp; omega)) _) | with_reducible refine Below.drew ?_))
end Go.Proofs.Ytplafccjgbeojaa
