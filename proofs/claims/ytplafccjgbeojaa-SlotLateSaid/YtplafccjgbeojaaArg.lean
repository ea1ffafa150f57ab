/- What a walk is told of a slice argument (after the guide's own shell for slices of integers). -/
import Derived.Test.YtplafccjgbeojaaPost
import Derived.Test.YtplafccjgbeojaaMem
import Derived.ChangeSlices
import Derived.Deep.Grids
import Derived.ChangeOld
open Go Go.RowKit Go.WideShapes Go.ChangeShapes
namespace Go.Proofs.Ytplafccjgbeojaa
open Pm

/-- the cells that a slice argument shows -/
def Shows (w : World) (a : Option Addr) (n : Nat) (f : Nat → Value) : Prop :=
  ∀ i, i < n → ∃ b off, a = some ⟨b, off, none⟩ ∧ b < w.heap.size ∧ w.cell? ⟨b, off + i, none⟩ = some (f i)

theorem addr_add_zero (a : Addr) : a.add 0 = a := by unfold Addr.add; rfl

theorem cell_spot {w : World} {a : Addr} {v : Value} (h : w.cell? a = some v) : ∃ b o, a = ⟨b, o, none⟩ ∧ b < w.heap.size := by
  obtain ⟨b, o, s⟩ := a
  unfold World.cell? at h
  split at h
  · rename_i c t z hb
    split at h
    · exact absurd h (by simp)
    · rename_i hs
      refine ⟨b, o, ?_, (Array.getElem?_eq_some_iff.1 hb).1⟩
      cases s with
      | none => rfl
      | some x => exact absurd rfl hs
  · exact absurd h (by simp)

section
variable {H : Type} {enc : TypeId × Value → H} {P : Program} {w : World} {base : Nat} {held : Bool}

theorem ints_arg {t e : TypeId} {a : Option Addr} {n c : Nat} {x : DataW H × List MemPlace} (ht : P.underlying t = some (.slice e)) (he : P.underlying e = some (.int .i64)) (hc : P.cellsOf e = 1)
    (h : ∃ fuel, DataW.trod enc P w base (fun _ => true) held fuel t (Value.cells (.slice a n c)).toList = some x) :
    ∃ l : List Int, n = l.length ∧ l.length ≤ c ∧ c ≤ 9223372036854775807 ∧ Shows w a l.length fun i => .int .i64 (nth l 0 i) := by
  obtain ⟨fuel, hf⟩ := h
  rcases open_ints ht he hc hf with ⟨hcs, _⟩ | ⟨y, l, c', zs, hcs, _, hl, hm, hz, _, hcell, hwz⟩
  · simp [Value.cells] at hcs
    obtain ⟨rfl, rfl, rfl⟩ := hcs
    exact ⟨[], rfl, by simp, by decide, fun i hi => by simp at hi⟩
  · simp [Value.cells] at hcs
    obtain ⟨rfl, rfl, rfl⟩ := hcs
    have hz' : zs.length = c := by simpa using hz
    have hlen : (zs.take n).length = n := by simp; omega
    refine ⟨zs.take n, hlen.symm, by rw [hlen]; exact hl, by unfold maxLen at hm; exact hm, fun i hi => ?_⟩
    rw [hlen] at hi
    have hq := hcell i (by omega)
    have e1 : zs.getD i 0 = nth (zs.take n) 0 i := by
      rw [nth_eq (by rw [hlen]; exact hi)]
      simp [List.getD, List.getElem?_eq_getElem (show i < zs.length by omega)]
    rw [e1] at hq
    obtain ⟨b, o, rfl, hb⟩ := cell_spot (by have := hcell 0 (by omega); rwa [addr_add_zero] at this)
    rw [Addr.add_lit] at hq
    exact ⟨b, o, rfl, hb, hq⟩

theorem bools_arg {t e : TypeId} {a : Option Addr} {n c : Nat} {x : DataW H × List MemPlace} (ht : P.underlying t = some (.slice e)) (he : P.underlying e = some .bool) (hc : P.cellsOf e = 1)
    (h : ∃ fuel, DataW.trod enc P w base (fun _ => true) held fuel t (Value.cells (.slice a n c)).toList = some x) :
    n ≤ c ∧ c ≤ 9223372036854775807 ∧ ∃ B : Nat → Bool, Shows w a n fun i => .bool (B i) := by
  obtain ⟨fuel, hf⟩ := h
  rcases Deep.open_bools ht he hc hf with ⟨hcs, _⟩ | ⟨y, l, c', B, hcs, _, hl, hm, _, hcell⟩
  · simp [Value.cells] at hcs
    obtain ⟨rfl, rfl, rfl⟩ := hcs
    exact ⟨Nat.le_refl _, by decide, fun _ => false, fun i hi => by simp at hi⟩
  · simp [Value.cells] at hcs
    obtain ⟨rfl, rfl, rfl⟩ := hcs
    refine ⟨hl, by unfold maxLen at hm; exact hm, B, fun i hi => ?_⟩
    have hq := hcell i (by omega)
    obtain ⟨b, o, rfl, hb⟩ := cell_spot (by have := hcell 0 (by omega); rwa [addr_add_zero] at this)
    rw [Addr.add_lit] at hq
    exact ⟨b, o, rfl, hb, hq⟩
end
end Go.Proofs.Ytplafccjgbeojaa
