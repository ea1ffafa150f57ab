/- What a walk is told of a slice argument (after the guide's own shell for slices of integers). -/
import Derived.Test.YtplafccjgbeojaaPost
import Derived.Test.YtplafccjgbeojaaMem
import Derived.ChangeSlices
import Derived.Deep.Grids
import Derived.ChangeOld
open Go Go.RowKit Go.WideShapes Go.ChangeShapes
namespace Go.Proofs.Ytplafccjgbeojaa
open Pm

/-- the cells that a slice argument shows -/
def Shows (w : World) (a : Option Addr) (n : Nat) (f : Nat → Value) : Prop :=
  ∀ i, i < n → ∃ b off, a = some ⟨b, off, none⟩ ∧ b < w.heap.size ∧ w.cell? ⟨b, off + i, none⟩ = some (f i)

theorem addr_add_zero (a : Addr) : a.add 0 = a := by unfold Addr.add; rfl

theorem cell_spot {w : World} {a : Addr} {v : Value} (h : w.cell? a = some v) : ∃ b o, a = ⟨b, o, none⟩ ∧ b < w.heap.size := by
  obtain ⟨b, o, s⟩ := a
  unfold World.cell? at h
  split at h
  · rename_i c t z hb
    split at h
    · exact absurd h (by simp)
    · rename_i hs
      refine ⟨b, o, ?_, (Array.getElem?_eq_some_iff.1 hb).1⟩
      cases s with
      | none => rfl
      | some x => exact absurd rfl hs
  · exact absurd h (by simp)

section
variable {H : Type} {enc : TypeId × Value → H} {P : Program} {w : World} {base : Nat} {held : Bool}

theorem ints_arg {t e : TypeId} {a : Option Addr} {n c : Nat} {x : DataW H × List MemPlace} (ht : P.underlying t = some (.slice e)) (he : P.underlying e = some (.int .i64)) (hc : P.cellsOf e = 1)
    (h : ∃ fuel, DataW.trod enc P w base (fun _ => true) held fuel t (Value.cells (.slice a n c)).toList = some x) :
    ∃ l : List Int, n = l.length ∧ l.length ≤ c ∧ c ≤ 9223372036854775807 ∧ Shows w a l.length fun i => .int .i64 (nth l 0 i) := by
  obtain ⟨fuel, hf⟩ := h
  rcases open_ints ht he hc hf with ⟨hcs, _⟩ | ⟨y, l, c', zs, hcs, _, hl, hm, hz, _, hcell, hwz⟩
  · simp [Value.cells] at hcs
    obtain ⟨rfl, rfl, rfl⟩ := hcs
    exact ⟨[], rfl, by simp, by decide, fun i hi => by simp at hi⟩
  · simp [Value.cells] at hcs
    obtain ⟨rfl, rfl, rfl⟩ := hcs
    have hz' : zs.length = c := by simpa using hz
    have hlen : (zs.take n).length = n := by simp; omega
    refine ⟨zs.take n, hlen.symm, by rw [hlen]; exact hl, by unfold maxLen at hm; exact hm, fun i hi => ?_⟩
    rw [hlen] at hi
    have hq := hcell i (by omega)
    have e1 : zs.getD i 0 = nth (zs.take n) 0 i := by
      rw [nth_eq (by rw [hlen]; exact hi)]
      simp [List.getD, List.getElem?_eq_getElem (show i < zs.length by omega)]
    rw [e1] at hq
    obtain ⟨b, o, rfl, hb⟩ := cell_spot (by have := hcell 0 (by omega); rwa [addr_add_zero] at this)
    rw [Addr.add_lit] at hq
    exact ⟨b, o, rfl, hb, hq⟩

theorem bools_arg {t e : TypeId} {a : Option Addr} {n c : Nat} {x : DataW H × List MemPlace} (ht : P.underlying t = some (.slice e)) (he : P.underlying e = some .bool) (hc : P.cellsOf e = 1)
    (h : ∃ fuel, DataW.trod enc P w base (fun _ => true) held fuel t (Value.cells (.slice a n c)).toList = some x) :
    n ≤ c ∧ c ≤ 9223372036854775807 ∧ ∃ B : Nat → Bool, Shows w a n fun i => .bool (B i) := by
  obtain ⟨fuel, hf⟩ := h
  rcases Deep.open_bools ht he hc hf with ⟨hcs, _⟩ | ⟨y, l, c', B, hcs, _, hl, hm, _, hcell⟩
  · simp [Value.cells] at hcs
    obtain ⟨rfl, rfl, rfl⟩ := hcs
    exact ⟨Nat.le_refl _, by decide, fun _ => false, fun i hi => by simp at hi⟩
  · simp [Value.cells] at hcs
    obtain ⟨rfl, rfl, rfl⟩ := hcs
    refine ⟨hl, by unfold maxLen at hm; exact hm, B, fun i hi => ?_⟩
    have hq := hcell i (by omega)
    obtain ⟨b, o, rfl, hb⟩ := cell_spot (by have := hcell 0 (by omega); rwa [addr_add_zero] at this)
    rw [Addr.add_lit] at hq
    exact ⟨b, o, rfl, hb, hq⟩

theorem ints_datum {t e : TypeId} {a : Option Addr} {n c : Nat} {x : DataW H × List MemPlace} (ht : P.underlying t = some (.slice e)) (he : P.underlying e = some (.int .i64)) (hc : P.cellsOf e = 1)
    (h : ∃ fuel, DataW.trod enc P w base (fun _ => true) held fuel t (Value.cells (.slice a n c)).toList = some x) :
    c = 0 ∨ ∃ el sp, x.1 = .slice el sp ∧ el.length + sp.length = c := by
  obtain ⟨fuel, hf⟩ := h
  rcases open_ints ht he hc hf with ⟨hcs, _⟩ | ⟨y, l, c', zs, hcs, _, hl, hm, hz, hx, _, _⟩
  · simp [Value.cells] at hcs
    exact .inl hcs.2.2
  · simp [Value.cells] at hcs
    obtain ⟨rfl, rfl, rfl⟩ := hcs
    have hz' : zs.length = c := by simpa using hz
    exact .inr ⟨_, _, by rw [hx], by simp [lits]; omega⟩

theorem array3_arg {t e : TypeId} {cs : Array Value} {x : DataW H × List MemPlace} (ht : P.underlying t = some (.array 3 e)) (he : P.underlying e = some (.int .i64)) (hct : P.cellsOf t = 3) (hc : P.cellsOf e = 1)
    (h : ∃ fuel, DataW.trod enc P w base (fun _ => true) held fuel t (Value.cells (.agg cs)).toList = some x) :
    ∃ m : Nat → Int, cs = #[.int .i64 (m 0), .int .i64 (m 1), .int .i64 (m 2)] := by
  obtain ⟨fuel, hf⟩ := h
  obtain ⟨xs, k, rfl, rfl, hl, hxs, hx⟩ := DataW.trod_array ht hf
  have hl' : cs.toList.length = 3 := by rw [hct] at hl; simpa [Value.cells] using hl
  obtain ⟨l, rfl⟩ : ∃ l, cs = ⟨l⟩ := ⟨cs.toList, by simp⟩
  match l, hl' with
  | [a, b, c], _ =>
    have h0 := hx 0 (by decide)
    have h1 := hx 1 (by decide)
    have h2 := hx 2 (by decide)
    rw [hc] at h0 h1 h2
    rw [List.getElem?_eq_getElem (by omega)] at h0 h1 h2
    obtain ⟨n0, e0, _⟩ := DataW.trod_int he h0
    obtain ⟨n1, e1, _⟩ := DataW.trod_int he h1
    obtain ⟨n2, e2, _⟩ := DataW.trod_int he h2
    refine ⟨fun i => if i = 0 then n0 else if i = 1 then n1 else n2, ?_⟩
    simp [Value.cells] at e0 e1 e2
    simp [e0, e1, e2]
theorem okWide_array {t e : TypeId} {n : Nat} {r : Reach} {v : Value} (ht : P.underlying t = some (.array n e)) (h : Value.okWide P w r base t v) : ∃ cs, v = .agg cs := by
  unfold Value.okWide at h
  rw [ht] at h
  obtain ⟨cs, h, _⟩ := h
  exact ⟨cs, h⟩
end
end Go.Proofs.Ytplafccjgbeojaa
