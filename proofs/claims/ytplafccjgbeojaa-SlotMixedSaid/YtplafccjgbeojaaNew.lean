/- slot.begin, slot.New -/
import Derived.Test.YtplafccjgbeojaaRep
open Go Go.RowKit
namespace Go.Proofs.Ytplafccjgbeojaa
open Pm

theorem owns_one (w : World) (e k : Nat) (r : List Value) (hr : r.length = k) : (w.alloc (.cells r.toArray e)).ownsRow 0 e k (.slice (some ⟨w.heap.size, 0, none⟩) 1 1) 1 (List.flatten [r]) := by
  refine ⟨by simp [hr], .inr ⟨_, 1, r.toArray, rfl, Nat.zero_le _, heap_alloc_new w _, Nat.le_refl _, by decide, by simp [hr], by simp [← hr]⟩⟩

@[go_sem] theorem makeMap_now {P : Program} (t : TypeId) (w : World) : (Instr.makeMap t none).run P w = .ok (.map (some w.heap.size)) (w.alloc (.map #[] 0)) := rfl

/-- the three new blocks of a slot -/
theorem begun (K : Nat → Tag) (i : Nat) {w w1 : World} {C : Nat} {c : List Tab} (name : ByteArray) (acked last : Int) (hc : CatAt w1 (Fresh w) C c) (hb : Below w.heap.size w w1) :
    ∃ K', Ext K K' w.heap.size ∧ Rep (((w1.alloc (.cells #[.int .i64 last, .pointer (some ⟨C, 0, none⟩)] 82)).alloc (.map #[] 0)).alloc
      (.cells #[.string name, .int .i64 acked, .int .i64 last, .slice (some ⟨w1.heap.size, 0, none⟩) 1 1, .map (some (w1.heap.size + 1)), .slice none 0 0] 70)) K' i (w1.heap.size + 1 + 1) (newSlot name acked last c) := by
  have hs := hb.size
  refine ⟨fun b => if b = w1.heap.size + 1 + 1 then (i, 0, 0) else if b = w1.heap.size + 1 then (i, 1, 0) else if b = w1.heap.size then (i, 2, 0) else if b < w.heap.size then K b else (0, 0, 0), ?_,
    .slice (some ⟨w1.heap.size, 0, none⟩) 1 1, w1.heap.size + 1, .slice none 0 0, [[.int .i64 last, .pointer (some ⟨C, 0, none⟩)]], [], [], ?_⟩
  · intro b hb
    have h1 : b ≠ w1.heap.size + 1 + 1 := by omega
    have h2 : b ≠ w1.heap.size + 1 := by omega
    have h3 : b ≠ w1.heap.size := by omega
    simp [h1, h2, h3, hb]
  · refine ⟨?_, by simp, by simp, ?_, ?_, ?_, rfl, by simp, Row.nil _ _ _ _ _, Rel₂.nil⟩
    · have := heap_alloc_new ((w1.alloc (.cells #[.int .i64 last, .pointer (some ⟨C, 0, none⟩)] 82)).alloc (.map #[] 0)) (.cells #[.string name, .int .i64 acked, .int .i64 last, .slice (some ⟨w1.heap.size, 0, none⟩) 1 1, .map (some (w1.heap.size + 1)), .slice none 0 0] 70)
      simpa [newSlot] using this
    · refine ⟨(((owns_one w1 82 2 [.int .i64 last, .pointer (some ⟨C, 0, none⟩)] rfl).alloc _).alloc _), by simp, ?_⟩
      intro b hb
      simp [Value.ownBlock] at hb
      subst hb
      have h1 : ¬ w1.heap.size = w1.heap.size + 1 + 1 := by omega
      simp [h1]
    · refine ⟨rfl, fun j hj => ?_⟩
      have : j = 0 := by simp [newSlot] at hj; exact hj
      subst this
      refine ⟨C, rfl, (((hc.mono (Q := fun b => w.heap.size ≤ b ∧ b < w1.heap.size) (fun b h1 h2 => ⟨h1, h2⟩)).frame (by (repeat (first | with_reducible exact Same.refl _ _ | with_reducible assumption | (with_reducible refine Same.set ?_ (by first | (simp; done) | (simp; omega) | (unfold Fresh; omega)) _) | with_reducible refine Same.alloc ?_ _ | with_reducible refine Same.drew ?_)))).mono fun b hb _ => ?_)⟩
      have h1 : b ≠ w1.heap.size + 1 + 1 := by omega
      have h2 : b ≠ w1.heap.size + 1 := by omega
      have h3 : b ≠ w1.heap.size := by omega
      have h4 : ¬ b < w.heap.size := by omega
      simp [Imm, h1, h2, h3, h4]
    · have := (MapIs.made (w1.alloc (.cells #[.int .i64 last, .pointer (some ⟨C, 0, none⟩)] 82)))
      simp only [World.size_alloc] at this
      exact this.frame (Below.heap_alloc _ _ _ (by simp))

set_option maxHeartbeats 400000 in
theorem begin_nil (K : Nat → Tag) (i : Nat) (w : World) (name : ByteArray) (acked last : Int) :
    Calls Try.prog 24 #[.string name, .int .i64 acked, .int .i64 last, .pointer none] w fun e w' => ∃ S K', e = .returned (.pointer (some ⟨S, 0, none⟩)) ∧ Ext K K' w.heap.size ∧ Rep w' K' i S (newSlot name acked last []) ∧ Below w.heap.size w w' := by
  go_enter Try.func24, Try.ntmps24
  go_wp2_with fail
  refine (clone_nil _).mono ?_
  rintro e w1 ⟨C, rfl, hc, hb⟩
  obtain ⟨K', hK, hR⟩ := begun K i name acked last hc hb
  have hs := hb.size
  go_wp2
  go_ret
  exact ⟨_, K', rfl, hK, hR, ((hb.alloc hs _).alloc (by simp; omega) _).alloc (by simp; omega) _⟩

set_option maxHeartbeats 400000 in
theorem begin_cat (K : Nat → Tag) (i : Nat) (w : World) (name : ByteArray) (acked last : Int) (C : Nat) (c : List Tab) (P : Nat → Prop) (h : CatAt w P C c) (hc : SmallCat c) :
    Calls Try.prog 24 #[.string name, .int .i64 acked, .int .i64 last, .pointer (some ⟨C, 0, none⟩)] w fun e w' => ∃ S K', e = .returned (.pointer (some ⟨S, 0, none⟩)) ∧ Ext K K' w.heap.size ∧ Rep w' K' i S (newSlot name acked last c) ∧ Below w.heap.size w w' := by
  go_enter Try.func24, Try.ntmps24
  go_wp2_with fail
  refine (clone_calls C c P _ h hc).mono ?_
  rintro e w1 ⟨C', rfl, hc, hb⟩
  obtain ⟨K', hK, hR⟩ := begun K i name acked last hc hb
  have hs := hb.size
  go_wp2
  go_ret
  exact ⟨_, K', rfl, hK, hR, ((hb.alloc hs _).alloc (by simp; omega) _).alloc (by simp; omega) _⟩

theorem new_nil (K : Nat → Tag) (i : Nat) (w : World) (name : ByteArray) (n : Int) :
    Calls Try.prog 9 #[.string name, .int .i64 n, .pointer none] w fun e w' => ∃ S K', e = .returned (.pointer (some ⟨S, 0, none⟩)) ∧ Ext K K' w.heap.size ∧ Rep w' K' i S (newSlot name (max n 0) (max n 0) []) ∧ Below w.heap.size w w' := by
  go_enter Try.func9, Try.ntmps9
  go_wp2_with fail
  all_goals
    refine (begin_nil K i _ name _ _).mono ?_
    rintro e w1 ⟨S, K', rfl, hK, hR, hB⟩
    go_wp2
    go_ret
    exact ⟨S, K', rfl, hK, by first | (rw [Int.max_eq_left (by omega)]; exact hR) | (rw [Int.max_eq_right (by omega)]; exact hR), hB⟩

theorem new_cat (K : Nat → Tag) (i : Nat) (w : World) (name : ByteArray) (n : Int) (C : Nat) (c : List Tab) (P : Nat → Prop) (hcat : CatAt w P C c) (hc : SmallCat c) :
    Calls Try.prog 9 #[.string name, .int .i64 n, .pointer (some ⟨C, 0, none⟩)] w fun e w' => ∃ S K', e = .returned (.pointer (some ⟨S, 0, none⟩)) ∧ Ext K K' w.heap.size ∧ Rep w' K' i S (newSlot name (max n 0) (max n 0) c) ∧ Below w.heap.size w w' := by
  go_enter Try.func9, Try.ntmps9
  go_wp2_with fail
  all_goals
    refine (begin_cat K i _ name _ _ C c P hcat hc).mono ?_
    rintro e w1 ⟨S, K', rfl, hK, hR, hB⟩
    go_wp2
    go_ret
    exact ⟨S, K', rfl, hK, by first | (rw [Int.max_eq_left (by omega)]; exact hR) | (rw [Int.max_eq_right (by omega)]; exact hR), hB⟩
end Go.Proofs.Ytplafccjgbeojaa
