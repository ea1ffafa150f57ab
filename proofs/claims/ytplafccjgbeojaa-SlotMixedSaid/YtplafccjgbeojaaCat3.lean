/- catalog.each over tables -/
import Derived.Test.YtplafccjgbeojaaCat2
open Go Go.RowKit
namespace Go.Proofs.Ytplafccjgbeojaa
open Pm

set_option maxRecDepth 100000 in
set_option maxHeartbeats 800000 in
theorem each_tab (v : Value) (l : List Tab) (P : Nat → Prop) (w : World) (h : TabsAt w P v l) (hl : l.length ≤ 1000000) (hb : ∀ i, i < l.length → Small (nth l dTab i)) :
    Calls Try.prog 62 #[v, .func (.func 63) #[] #[]] w fun e w' => ∃ a n c, e = .returned (.slice a n c) ∧ TabsAt w' (Fresh w) (.slice a n c) l ∧ Below w.heap.size w w' := by
  obtain ⟨rows, hs, hr⟩ := h
  obtain ⟨a, cap, rfl, h1, h2, ⟨rfl, rfl, rfl⟩ | ⟨b, off, rfl, hPb, hbl⟩⟩ := hs.open
  · have hl0 : l = [] := List.eq_nil_of_length_eq_zero hr.1.symm
    subst hl0
    go_enter Try.func62, Try.ntmps62
    go_wp2_with fail
    go_loopw [5, 10] (fun out i wr => out = .slice none 0 0 ∧ i = .int .i64 0 ∧ wr = w) (fun _ i _ => 0)
    case atStart => exact ⟨rfl, rfl, rfl⟩
    case round =>
      obtain ⟨rfl, rfl, rfl⟩ := hrel
      go_wp2
      go_ret
      exact ⟨_, _, _, rfl, ⟨[], SlAt.nil _ _ _, Rel₂.nil⟩, Below.refl _ _⟩
  have hn : rows.length = l.length := hr.1
  have hlen : rows.length ≤ 1000000 := by omega
  have hrl : ∀ i, i < rows.length → ∃ a n c a' n' c', nth rows [] i = [.int .i64 (nth l dTab i).id, .string (nth l dTab i).name, .slice a n c, .slice a' n' c'] ∧ ColsAt w P (.slice a n c) (nth l dTab i).cols ∧ IdxsAt w P (.slice a' n' c') (nth l dTab i).idx := fun i hi => hr.2 i (by omega)
  have hb' : ∀ i, i < rows.length → Small (nth l dTab i) := fun i hi => hb i (by omega)
  have htk : ∀ k, k < rows.length → l.take (k + 1) = l.take k ++ [nth l dTab k] := fun k hk => take_succ_nth l dTab (by omega)
  have hfin : l.take rows.length = l := by rw [hn]; exact List.take_length
  have HF := Lib.hid hfin
  clear hfin
  have HN := Lib.hid hn
  clear hn
  go_enter Try.func62, Try.ntmps62
  go_wp2_with fail
  go_loopw [5, 10] (fun out i wr => ∃ k : Nat, k ≤ rows.length ∧ i = .int .i64 k ∧ Coll w 110 4 TabRow dTab (l.take k) k out wr) (fun _ i _ => rows.length - (intOf i).toNat)
  case atStart => exact ⟨0, Nat.zero_le _, rfl, Coll.start _ _ _ _ _⟩
  case round =>
    obtain ⟨k, hk, rfl, hcoll⟩ := hrel
    have hbel := hcoll.below
    by_cases hlt : k < rows.length
    · obtain ⟨xa, xn, xc, za, zn, zc, hrow, hxi, hxj⟩ := hrl k hlt
      have c0 : wr.cell? ⟨b, off + k * 4, none⟩ = some (.int .i64 (nth l dTab k).id) := (Same.of_below hbel).cell (P := fun _ => True) trivial (by have := hs.cell hlt (j := 0) (by rw [hrow]; rfl); simpa using this)
      have c1 : wr.cell? ⟨b, off + k * 4 + 1, none⟩ = some (.string (nth l dTab k).name) := (Same.of_below hbel).cell (P := fun _ => True) trivial (hs.cell hlt (j := 1) (by rw [hrow]; rfl))
      have c2 : wr.cell? ⟨b, off + k * 4 + 2, none⟩ = some (.slice xa xn xc) := (Same.of_below hbel).cell (P := fun _ => True) trivial (hs.cell hlt (j := 2) (by rw [hrow]; rfl))
      have c3 : wr.cell? ⟨b, off + k * 4 + 3, none⟩ = some (.slice za zn zc) := (Same.of_below hbel).cell (P := fun _ => True) trivial (hs.cell hlt (j := 3) (by rw [hrow]; rfl))
      have hxb := hb' k hlt
      have htk1 := Lib.hid (htk k hlt)
      generalize hx : nth l dTab k = x at *
      clear hrl hb' htk hrow hx
      obtain ⟨oa, oc, rfl⟩ := hcoll.open
      go_wp2_with fail
      refine (tab_copied [.int .i64 x.id, .string x.name, .slice xa xn xc, .slice za zn zc] x P _ ⟨_, _, _, _, _, _, rfl, hxi.frame ((Same.of_below hbel).alloc _), hxj.frame ((Same.of_below hbel).alloc _)⟩ hxb).mono ?_
      rintro e w1 ⟨r1, rfl, ⟨ya, yn, yc, ta, tn, tc, rfl, hy, hz⟩, hb1⟩
      have hc1 := (hcoll.kept framed_tab ((Below.refl _ _).alloc (Nat.le_refl _) (.cells #[.int .i64 x.id, .string x.name, .slice xa xn xc, .slice za zn zc] 110))).kept framed_tab hb1
      have hsz1 := hb1.size
      simp only [World.size_alloc] at hsz1
      have hsw := hbel.size
      have hy' := hy.mono (Q := fun b => w.heap.size ≤ b ∧ Value.ownBlock (.slice oa k oc) ≠ some b) (fun b hb _ => ⟨by simp [Fresh] at hb; omega, fun e => by have := (hcoll.owns.choose_spec.1.lt b e).2; simp [Fresh] at hb; omega⟩)
      have hz' := hz.mono (Q := fun b => w.heap.size ≤ b ∧ Value.ownBlock (.slice oa k oc) ≠ some b) (fun b hb _ => ⟨by simp [Fresh] at hb; omega, fun e => by have := (hcoll.owns.choose_spec.1.lt b e).2; simp [Fresh] at hb; omega⟩)
      clear hcoll c0 c1 c2 c3 hxi hxj hy hz
      obtain ⟨rs, ho1, hk1, hf1, hr1⟩ := hc1.owns
      have HK := Lib.hid hk1
      clear hk1
      have hbb := hc1.below
      go_wp2_with (at_builtin; go_must (refine wpList_app rfl _ _ _ rfl elem_tabs rfl (ho1.alloc _) rfl (slat_new [[.int .i64 x.id, .string x.name, .slice ya yn yc, .slice ta tn tc]] rfl (by simp) rfl (by simp)) (by simp [Value.oneCell']) (by simp; omega) (by simp; omega) ?_; intro v2 w2 hown2 hg2 _ hl2))
      go_roundw
      case measure => simp [intOf]; omega
      case rel =>
        refine ⟨k + 1, by omega, by go_num, ?_⟩
        rw [htk1.out]
        exact Coll.snoc framed_tab HK.out hf1 (hr1.imp fun _ _ h => h.frame ((Same.refl _ _).alloc _)) (hbb.alloc hbb.size _) ⟨_, _, _, _, _, _, rfl, hy'.frame ((Same.refl _ _).alloc _), hz'.frame ((Same.refl _ _).alloc _)⟩ rfl hown2 hg2 hl2
    · have hkk : k = rows.length := by omega
      subst hkk
      go_wp2
      go_ret
      obtain ⟨oa, oc, rfl⟩ := hcoll.open
      rw [HF.out] at hcoll
      exact ⟨_, _, _, rfl, hcoll.done framed_tab, hbel⟩

def SmallCat (c : List Tab) : Prop := c.length ≤ 1000000 ∧ ∀ i, i < c.length → Small (nth c dTab i)

/-- the catalog behind a pointer -/
def CatAt (w : World) (P : Nat → Prop) (C : Nat) (c : List Tab) : Prop :=
  ∃ a n k, w.heap[C]? = some (.cells #[.slice a n k] 93 (0, 0)) ∧ P C ∧ TabsAt w P (.slice a n k) c

theorem CatAt.frame {w w' : World} {P : Nat → Prop} {C : Nat} {c : List Tab} (h : CatAt w P C c) (hs : Same P w w') : CatAt w' P C c := by
  obtain ⟨a, n, k, h1, h2, h3⟩ := h
  exact ⟨a, n, k, hs.blk h2 h1, h2, h3.frame hs⟩
theorem CatAt.mono {w : World} {P Q : Nat → Prop} {C : Nat} {c : List Tab} (h : CatAt w P C c) (hPQ : ∀ b, P b → b < w.heap.size → Q b) : CatAt w Q C c := by
  obtain ⟨a, n, k, h1, h2, h3⟩ := h
  exact ⟨a, n, k, h1, hPQ C h2 (lt_of_block h1), h3.mono hPQ⟩

theorem all_nil (w : World) : Calls Try.prog 39 #[.pointer none] w fun e w' => e = .returned (.slice none 0 0) ∧ w' = w := by
  go_enter Try.func39, Try.ntmps39
  go_wp2
  go_ret
  exact ⟨rfl, rfl⟩

theorem all_calls (C : Nat) (c : List Tab) (P : Nat → Prop) (w : World) (h : CatAt w P C c) (hc : SmallCat c) :
    Calls Try.prog 39 #[.pointer (some ⟨C, 0, none⟩)] w fun e w' => ∃ a n k, e = .returned (.slice a n k) ∧ TabsAt w' (Fresh w) (.slice a n k) c ∧ Below w.heap.size w w' := by
  obtain ⟨a, n, k, h1, h2, h3⟩ := h
  obtain ⟨q1, q2, q3⟩ := bfacts h1
  go_enter Try.func39, Try.ntmps39
  go_wp2_with fail
  refine (each_tab _ c P _ h3 hc.1 hc.2).mono ?_
  rintro e w1 ⟨a1, n1, c1, rfl, h1, hb1⟩
  go_wp2
  go_ret
  exact ⟨_, _, _, rfl, h1, hb1⟩

theorem clone_nil (w : World) : Calls Try.prog 44 #[.pointer none] w fun e w' => ∃ C, e = .returned (.pointer (some ⟨C, 0, none⟩)) ∧ CatAt w' (Fresh w) C [] ∧ Below w.heap.size w w' := by
  go_enter Try.func44, Try.ntmps44
  go_wp2_with fail
  refine (all_nil _).mono ?_
  rintro e w1 ⟨rfl, rfl⟩
  go_wp2
  go_ret
  exact ⟨_, rfl, ⟨_, _, _, heap_alloc_new _ _, Nat.le_refl _, [], SlAt.nil _ _ _, Rel₂.nil⟩, (Below.refl _ _).alloc (Nat.le_refl _) _⟩

theorem clone_calls (C : Nat) (c : List Tab) (P : Nat → Prop) (w : World) (h : CatAt w P C c) (hc : SmallCat c) :
    Calls Try.prog 44 #[.pointer (some ⟨C, 0, none⟩)] w fun e w' => ∃ C', e = .returned (.pointer (some ⟨C', 0, none⟩)) ∧ CatAt w' (Fresh w) C' c ∧ Below w.heap.size w w' := by
  go_enter Try.func44, Try.ntmps44
  go_wp2_with fail
  refine (all_calls C c P _ h hc).mono ?_
  rintro e w1 ⟨a1, n1, c1, rfl, h1, hb1⟩
  go_wp2
  go_ret
  exact ⟨_, rfl, ⟨_, _, _, heap_alloc_new _ _, hb1.size, h1.frame ((Same.refl _ _).alloc _)⟩, hb1.alloc hb1.size _⟩
end Go.Proofs.Ytplafccjgbeojaa
