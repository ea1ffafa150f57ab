/- slices.Clone at rows, strings and ints. -/
import Derived.Test.YtplafccjgbeojaaBase
open Go Go.RowKit
namespace Go.Proofs.Ytplafccjgbeojaa
open Pm

theorem elem_row : Elem Try.prog 32 30 3 32 (.agg #[.int .i64 0, .int .i64 0, .string .empty]) := .mk' Try.underlying32 (by kernel_rfl) rfl (by decide)
theorem elem_strs : Elem Try.prog 46 9 1 16 (.string .empty) := .mk' Try.underlying46 (by kernel_rfl) rfl (by decide)
theorem elem_ints : Elem Try.prog 22 3 1 8 (.int .i64 0) := .mk' Try.underlying22 (by kernel_rfl) rfl (by decide)

theorem one_cVal (l : List Val) : ∀ r ∈ l.map cVal, ∀ u ∈ r, u.oneCell' = true := by
  intro r hr u hu
  obtain ⟨x, _, rfl⟩ := List.mem_map.1 hr
  simp [cVal] at hu
  rcases hu with rfl | rfl | rfl <;> rfl
theorem one_cStr (l : List ByteArray) : ∀ r ∈ l.map cStr, ∀ u ∈ r, u.oneCell' = true := by
  intro r hr u hu
  obtain ⟨x, _, rfl⟩ := List.mem_map.1 hr
  simp [cStr] at hu
  subst hu; rfl
theorem one_cInt (l : List Int) : ∀ r ∈ l.map cInt, ∀ u ∈ r, u.oneCell' = true := by
  intro r hr u hu
  obtain ⟨x, _, rfl⟩ := List.mem_map.1 hr
  simp [cInt] at hu
  subst hu; rfl
theorem len_map {α : Type} {f : α → List Value} {k : Nat} (hf : ∀ a, (f a).length = k) (l : List α) : ∀ r ∈ l.map f, r.length = k := by
  intro r hr
  obtain ⟨x, _, rfl⟩ := List.mem_map.1 hr
  exact hf x

/-- what a clone comes to -/
def Cloned (k : Nat) (rows : List (List Value)) (w : World) (e : Ending) (w' : World) : Prop := ∃ a n c, e = .returned (.slice a n c) ∧ SlAt w' (Fresh w) k (.slice a n c) rows ∧ Below w.heap.size w w'

theorem cloned_of {w w1 : World} {e k : Nat} {v' : Value} {o : Obj} {rows : List (List Value)} (hk : ∀ r ∈ rows, r.length = k) (hown : w1.ownsRow 0 e k v' (0 + rows.length) ([] ++ rows).flatten)
    (hg : (w.alloc o).grownBy w1 (Value.ownBlock (.slice (some ⟨w.heap.size, 0, none⟩) 0 0)))
    (hl : v'.ownBlock = Value.ownBlock (.slice (some ⟨w.heap.size, 0, none⟩) 0 0) ∨ v'.ownBlock = some (w.alloc o).heap.size) : Cloned k rows w (.returned v') w1 := by
  have hs : SlAt w1 (Fresh w) k v' rows := SlAt.of_owns (by simpa using hown) (by simp) hk ?_
  · obtain ⟨a, cap, rfl, _⟩ := hs.open
    exact ⟨a, _, cap, rfl, hs, ((Below.refl _ w).alloc (Nat.le_refl _) o).grown hg (by simp) (fun j hj => by simp [Value.ownBlock] at hj; omega)⟩
  · intro b hb
    rcases hl with hl | hl
    · rw [hl] at hb; simp [Value.ownBlock] at hb; subst hb; exact Nat.le_refl _
    · rw [hl] at hb; simp at hb; subst hb; exact Nat.le_succ _

set_option maxRecDepth 100000 in
set_option maxHeartbeats 400000 in
theorem clone_row' (v : Value) (l : List Val) (P : Nat → Prop) (w : World) (h : RowAt w P v l) (hb : l.length ≤ 1000000) :
    Calls Try.prog 65 #[v] w (Cloned 3 (l.map cVal) w) := by
  unfold RowAt at h
  obtain ⟨a, cap, rfl, h1, h2, ⟨h3, rfl, rfl⟩ | ⟨b, off, rfl, h4, _⟩⟩ := h.open
  · have : l = [] := by simpa using h3
    subst this
    go_enter Try.func65, Try.ntmps65
    go_wp2
    go_ret
    exact ⟨_, _, _, rfl, SlAt.nil _ _ _, Below.refl _ _⟩
  · have h63 : 0 + (l.map cVal).length ≤ 9223372036854775807 := by simp; omega
    have hby : (0 + (l.map cVal).length) * 32 ≤ 140737488355328 := by simp; omega
    have hone := one_cVal l
    have hlen := len_map (f := cVal) (k := 3) (fun _ => rfl) l
    generalize l.map cVal = rows at *
    clear hb
    go_enter Try.func65, Try.ntmps65
    go_wp2_with (at_builtin; refine wpList_app rfl _ _ _ rfl elem_row rfl (owns_made0 _ _ _) rfl (h.frame ((Same.refl _ _).alloc _)) hone h63 hby ?_; intro v' w1 hown hg _ hl)
    go_ret
    exact cloned_of hlen hown hg hl
set_option maxRecDepth 100000 in
set_option maxHeartbeats 400000 in
theorem clone_strs' (v : Value) (l : List ByteArray) (P : Nat → Prop) (w : World) (h : StrsAt w P v l) (hb : l.length ≤ 1000000) :
    Calls Try.prog 45 #[v] w (Cloned 1 (l.map cStr) w) := by
  unfold StrsAt at h
  obtain ⟨a, cap, rfl, h1, h2, ⟨h3, rfl, rfl⟩ | ⟨b, off, rfl, h4, _⟩⟩ := h.open
  · have : l = [] := by simpa using h3
    subst this
    go_enter Try.func45, Try.ntmps45
    go_wp2
    go_ret
    exact ⟨_, _, _, rfl, SlAt.nil _ _ _, Below.refl _ _⟩
  · have h63 : 0 + (l.map cStr).length ≤ 9223372036854775807 := by simp; omega
    have hby : (0 + (l.map cStr).length) * 16 ≤ 140737488355328 := by simp; omega
    have hone := one_cStr l
    have hlen := len_map (f := cStr) (k := 1) (fun _ => rfl) l
    generalize l.map cStr = rows at *
    clear hb
    go_enter Try.func45, Try.ntmps45
    go_wp2_with (at_builtin; refine wpList_app rfl _ _ _ rfl elem_strs rfl (owns_made0 _ _ _) rfl (h.frame ((Same.refl _ _).alloc _)) hone h63 hby ?_; intro v' w1 hown hg _ hl)
    go_ret
    exact cloned_of hlen hown hg hl
set_option maxRecDepth 100000 in
set_option maxHeartbeats 400000 in
theorem clone_ints' (v : Value) (l : List Int) (P : Nat → Prop) (w : World) (h : IntsAt w P v l) (hb : l.length ≤ 1000000) :
    Calls Try.prog 29 #[v] w (Cloned 1 (l.map cInt) w) := by
  unfold IntsAt at h
  obtain ⟨a, cap, rfl, h1, h2, ⟨h3, rfl, rfl⟩ | ⟨b, off, rfl, h4, _⟩⟩ := h.open
  · have : l = [] := by simpa using h3
    subst this
    go_enter Try.func29, Try.ntmps29
    go_wp2
    go_ret
    exact ⟨_, _, _, rfl, SlAt.nil _ _ _, Below.refl _ _⟩
  · have h63 : 0 + (l.map cInt).length ≤ 9223372036854775807 := by simp; omega
    have hby : (0 + (l.map cInt).length) * 8 ≤ 140737488355328 := by simp; omega
    have hone := one_cInt l
    have hlen := len_map (f := cInt) (k := 1) (fun _ => rfl) l
    generalize l.map cInt = rows at *
    clear hb
    go_enter Try.func29, Try.ntmps29
    go_wp2_with (at_builtin; refine wpList_app rfl _ _ _ rfl elem_ints rfl (owns_made0 _ _ _) rfl (h.frame ((Same.refl _ _).alloc _)) hone h63 hby ?_; intro v' w1 hown hg _ hl)
    go_ret
    exact cloned_of hlen hown hg hl

theorem clone_row (v : Value) (l : List Val) (P : Nat → Prop) (w : World) (h : RowAt w P v l) (hb : l.length ≤ 1000000) :
    Calls Try.prog 65 #[v] w fun e w' => ∃ a n c, e = .returned (.slice a n c) ∧ RowAt w' (Fresh w) (.slice a n c) l ∧ Below w.heap.size w w' := clone_row' v l P w h hb
theorem clone_strs (v : Value) (l : List ByteArray) (P : Nat → Prop) (w : World) (h : StrsAt w P v l) (hb : l.length ≤ 1000000) :
    Calls Try.prog 45 #[v] w fun e w' => ∃ a n c, e = .returned (.slice a n c) ∧ StrsAt w' (Fresh w) (.slice a n c) l ∧ Below w.heap.size w w' := clone_strs' v l P w h hb
theorem clone_ints (v : Value) (l : List Int) (P : Nat → Prop) (w : World) (h : IntsAt w P v l) (hb : l.length ≤ 1000000) :
    Calls Try.prog 29 #[v] w fun e w' => ∃ a n c, e = .returned (.slice a n c) ∧ IntsAt w' (Fresh w) (.slice a n c) l ∧ Below w.heap.size w w' := clone_ints' v l P w h hb

set_option maxHeartbeats 400000 in
/-- slot.row -/
theorem row_calls (v : Value) (l : List Val) (P : Nat → Prop) (w : World) (h : RowAt w P v l) (hb : l.length ≤ 1000000) :
    Calls Try.prog 46 #[v] w fun e w' => ∃ a n c, e = .returned (.slice a n c) ∧ RowAt w' (Fresh w) (.slice a n c) l ∧ Below w.heap.size w w' := by
  go_enter Try.func46, Try.ntmps46
  go_wp2_with (go_at_call 65; refine (clone_row v l P w h hb).mono ?_; rintro e w1 ⟨a, n, c, rfl, h1, h2⟩)
  go_ret
  exact ⟨_, _, _, rfl, h1, h2⟩
end Go.Proofs.Ytplafccjgbeojaa
