/- catalog.At -/
import Derived.Test.YtplafccjgbeojaaCat3
open Go Go.RowKit
namespace Go.Proofs.Ytplafccjgbeojaa
open Pm

theorem CatAt.open {w : World} {P : Nat → Prop} {C : Nat} {c : List Tab} (h : CatAt w P C c) :
    ∃ a cap rows, w.heap[C]? = some (.cells #[.slice a c.length cap] 93 (0, 0)) ∧ P C ∧ SlAt w P 4 (.slice a c.length cap) rows ∧ Rel₂ (TabRow w P) [] dTab rows c ∧ c.length ≤ cap ∧ cap ≤ 9223372036854775807 ∧
      (rows = [] ∧ a = none ∧ cap = 0 ∨ ∃ b off, a = some ⟨b, off, none⟩ ∧ P b ∧ b < w.heap.size) := by
  obtain ⟨a, n, k, h1, h2, rows, hs, hr⟩ := h
  obtain ⟨a', cap, he, q1, q2, q3⟩ := hs.open
  simp only [Value.slice.injEq] at he
  obtain ⟨rfl, rfl, rfl⟩ := he
  rw [hr.1] at h1 hs q1
  exact ⟨a, k, rows, h1, h2, hs, hr, q1, q2, q3⟩

theorem at_none (C : Nat) (c : List Tab) (P : Nat → Prop) (w : World) (h : CatAt w P C c) (id : Int) (hid : id < 1 ∨ c.length < id) :
    Calls Try.prog 47 #[.pointer (some ⟨C, 0, none⟩), .int .i64 id] w fun e w' => e = .returned (.tuple #[.agg #[.int .i64 0, .string .empty, .slice none 0 0, .slice none 0 0], .bool false]) ∧ Below w.heap.size w w' := by
  obtain ⟨a, cap, rows, h1, h2, _, _, q1, q2, _⟩ := h.open
  obtain ⟨c1, c2, c3⟩ := bfacts h1
  have hl : c.length ≤ 9223372036854775807 := by omega
  clear h1
  rcases hid with hid | hid
  · go_enter Try.func47, Try.ntmps47
    go_wp2
    refine bodyPost_ret (v := .tuple #[.agg #[.int .i64 0, .string ⟨#[]⟩, .slice none 0 0, .slice none 0 0], .bool false]) (by simp [results, Try.results47, go_sem]) rfl ⟨rfl, ?_⟩
    (repeat (first | with_reducible exact Below.refl _ _ | with_reducible assumption | (with_reducible refine Below.setCell ?_ (by first | (simp; done) | (simp; omega)) _) | (with_reducible refine Below.alloc ?_ (by first | (simp; done) | (simp; omega)) _) | with_reducible refine Below.drew ?_))
  · have h0 : ¬ id < 1 := by omega
    go_enter Try.func47, Try.ntmps47
    go_wp2
    refine bodyPost_ret (v := .tuple #[.agg #[.int .i64 0, .string ⟨#[]⟩, .slice none 0 0, .slice none 0 0], .bool false]) (by simp [results, Try.results47, go_sem]) rfl ⟨rfl, ?_⟩
    (repeat (first | with_reducible exact Below.refl _ _ | with_reducible assumption | (with_reducible refine Below.setCell ?_ (by first | (simp; done) | (simp; omega)) _) | (with_reducible refine Below.alloc ?_ (by first | (simp; done) | (simp; omega)) _) | with_reducible refine Below.drew ?_))

set_option maxHeartbeats 400000 in
theorem at_some (C : Nat) (c : List Tab) (P : Nat → Prop) (w : World) (h : CatAt w P C c) (hc : SmallCat c) (id : Int) (hid : 1 ≤ id ∧ id ≤ c.length) :
    Calls Try.prog 47 #[.pointer (some ⟨C, 0, none⟩), .int .i64 id] w fun e w' => ∃ r : List Value, e = .returned (.tuple #[.agg r.toArray, .bool true]) ∧ TabRow w' (Fresh w) r (nth c dTab (id.toNat - 1)) ∧ Below w.heap.size w w' := by
  obtain ⟨i, hi⟩ : ∃ i : Nat, id = i + 1 := ⟨id.toNat - 1, by omega⟩
  subst hi
  have hic : i < c.length := by omega
  have e1 : ((i : Int) + 1).toNat - 1 = i := by omega
  rw [e1]
  clear e1
  obtain ⟨a, cap, rows, h1, h2, hs, hr, q1, q2, q3⟩ := h.open
  obtain ⟨b, off, rfl, hPb, hbl⟩ : ∃ b off, a = some ⟨b, off, none⟩ ∧ P b ∧ b < w.heap.size := by
    rcases q3 with ⟨rfl, _, _⟩ | q3
    · have := hr.1; simp at this; omega
    · exact q3
  obtain ⟨c1, c2, c3⟩ := bfacts h1
  have hl : c.length ≤ 1000000 := hc.1
  have hsm := hc.2 i hic
  obtain ⟨xa, xn, xc, za, zn, zc, hrow, hx, hz⟩ := hr.2 i hic
  have hir : i < rows.length := by rw [hr.1]; exact hic
  have d0 : w.cell? ⟨b, off + i * 4, none⟩ = some (.int .i64 (nth c dTab i).id) := by have := hs.cell hir (j := 0) (by rw [hrow]; rfl); simpa using this
  have d1 : w.cell? ⟨b, off + i * 4 + 1, none⟩ = some (.string (nth c dTab i).name) := hs.cell hir (j := 1) (by rw [hrow]; rfl)
  have d2 : w.cell? ⟨b, off + i * 4 + 2, none⟩ = some (.slice xa xn xc) := hs.cell hir (j := 2) (by rw [hrow]; rfl)
  have d3 : w.cell? ⟨b, off + i * 4 + 3, none⟩ = some (.slice za zn zc) := hs.cell hir (j := 3) (by rw [hrow]; rfl)
  have hi1 : ((i : Int) + 1 - 1) = i := by omega
  clear h1 hs hr q3 hc hrow h hir
  generalize nth c dTab i = x at *
  have hlt : ¬ ((i : Int) + 1 < 1) := by omega
  have hgt : ¬ ((c.length : Int) < (i : Int) + 1) := by omega
  go_enter Try.func47, Try.ntmps47
  go_wp2_with fail
  refine (tab_copied [.int .i64 x.id, .string x.name, .slice xa xn xc, .slice za zn zc] x P _ ⟨_, _, _, _, _, _, rfl, hx.frame ((Same.refl _ _).alloc _), hz.frame ((Same.refl _ _).alloc _)⟩ hsm).mono ?_
  rintro e w1 ⟨r1, rfl, ⟨ya, yn, yc, ta, tn, tc, rfl, hy, hw⟩, hb1⟩
  obtain ⟨rc, rf, rl⟩ := bfacts (Below.blk hb1 (heap_alloc_new _ _))
  have hB := Below.step ((Below.refl w.heap.size w).alloc (Nat.le_refl _) _) (Nat.le_refl _) hb1
  have hy' := hy.mono (Q := fun b => w.heap.size + 1 ≤ b) (fun b hb _ => by simpa [Fresh] using hb)
  have hw' := hw.mono (Q := fun b => w.heap.size + 1 ≤ b) (fun b hb _ => by simpa [Fresh] using hb)
  clear hy hw hb1
  go_wp2
  refine bodyPost_ret (v := .tuple #[.agg #[.int .i64 x.id, .string x.name, .slice ya yn yc, .slice ta tn tc], .bool true]) (by simp [results, Try.results47, go_sem, rc, rf]) rfl ⟨[.int .i64 x.id, .string x.name, .slice ya yn yc, .slice ta tn tc], rfl, ⟨_, _, _, _, _, _, rfl, ?_, ?_⟩, ?_⟩
  · exact (hy'.frame (by (repeat (first | with_reducible exact Same.refl _ _ | with_reducible assumption | (with_reducible refine Same.set ?_ (by first | (simp; done) | (simp; omega) | (unfold Fresh; omega)) _) | with_reducible refine Same.alloc ?_ _ | with_reducible refine Same.drew ?_)))).mono (fun b hb _ => by unfold Fresh; omega)
  · exact (hw'.frame (by (repeat (first | with_reducible exact Same.refl _ _ | with_reducible assumption | (with_reducible refine Same.set ?_ (by first | (simp; done) | (simp; omega) | (unfold Fresh; omega)) _) | with_reducible refine Same.alloc ?_ _ | with_reducible refine Same.drew ?_)))).mono (fun b hb _ => by unfold Fresh; omega)
  · (repeat (first | with_reducible exact Below.refl _ _ | with_reducible assumption | (with_reducible refine Below.setCell ?_ (by first | (simp; done) | (simp; omega)) _) | (with_reducible refine Below.alloc ?_ (by first | (simp; done) | (simp; omega)) _) | with_reducible refine Below.drew ?_))
end Go.Proofs.Ytplafccjgbeojaa
