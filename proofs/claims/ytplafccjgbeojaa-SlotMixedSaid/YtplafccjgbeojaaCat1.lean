/- catalog: copies of columns, indexes, tables; All, Clone, At, Table -/
import Derived.Test.YtplafccjgbeojaaOwn
import Derived.Deep.DeepMust
open Go Go.RowKit
namespace Go.Proofs.Ytplafccjgbeojaa
open Pm

theorem elem_cols : Elem Try.prog 56 55 2 24 (.agg #[.string .empty, .int .i64 0]) := .mk' Try.underlying56 (by kernel_rfl) rfl (by decide)
theorem elem_idxs : Elem Try.prog 108 113 3 48 (.agg #[.string .empty, .slice none 0 0, .int .i64 0]) := .mk' Try.underlying108 (by kernel_rfl) rfl (by decide)
theorem elem_tabs : Elem Try.prog 91 110 4 72 (.agg #[.int .i64 0, .string .empty, .slice none 0 0, .slice none 0 0]) := .mk' Try.underlying91 (by kernel_rfl) rfl (by decide)

theorem one_cCol (l : List Col) : ∀ r ∈ l.map cCol, ∀ u ∈ r, u.oneCell' = true := by
  intro r hr u hu
  obtain ⟨x, _, rfl⟩ := List.mem_map.1 hr
  simp [cCol] at hu
  rcases hu with rfl | rfl <;> rfl

set_option maxRecDepth 100000 in
set_option maxHeartbeats 400000 in
theorem clone_cols' (v : Value) (l : List Col) (P : Nat → Prop) (w : World) (h : ColsAt w P v l) (hb : l.length ≤ 1000000) :
    Calls Try.prog 85 #[v] w (Cloned 2 (l.map cCol) w) := by
  unfold ColsAt at h
  obtain ⟨a, cap, rfl, h1, h2, ⟨h3, rfl, rfl⟩ | ⟨b, off, rfl, h4, _⟩⟩ := h.open
  · have : l = [] := by simpa using h3
    subst this
    go_enter Try.func85, Try.ntmps85
    go_wp2
    go_ret
    exact ⟨_, _, _, rfl, SlAt.nil _ _ _, Below.refl _ _⟩
  · have h63 : 0 + (l.map cCol).length ≤ 9223372036854775807 := by simp; omega
    have hby : (0 + (l.map cCol).length) * 24 ≤ 140737488355328 := by simp; omega
    have hone := one_cCol l
    have hlen := len_map (f := cCol) (k := 2) (fun _ => rfl) l
    generalize l.map cCol = rows at *
    clear hb
    go_enter Try.func85, Try.ntmps85
    go_wp2_with (at_builtin; refine wpList_app rfl _ _ _ rfl elem_cols rfl (owns_made0 _ _ _) rfl (h.frame ((Same.refl _ _).alloc _)) hone h63 hby ?_; intro v' w1 hown hg _ hl)
    go_ret
    exact cloned_of hlen hown hg hl

theorem clone_cols (v : Value) (l : List Col) (P : Nat → Prop) (w : World) (h : ColsAt w P v l) (hb : l.length ≤ 1000000) :
    Calls Try.prog 85 #[v] w fun e w' => ∃ a n c, e = .returned (.slice a n c) ∧ ColsAt w' (Fresh w) (.slice a n c) l ∧ Below w.heap.size w w' := clone_cols' v l P w h hb

/-- the clone of an index -/
theorem idx_copied (r : List Value) (x : Idx) (P : Nat → Prop) (w : World) (h : IdxRow w P r x) (hb : x.cols.length ≤ 1000000) :
    Calls Try.prog 94 #[.agg r.toArray] w fun e w' => ∃ r', e = .returned (.agg r'.toArray) ∧ IdxRow w' (Fresh w) r' x ∧ Below w.heap.size w w' := by
  obtain ⟨a, n, c, rfl, hn⟩ := h
  have fn : ∀ W, Below w.heap.size w W → IntsAt W P (.slice a n c) x.cols := fun W h => hn.frame (Same.of_below h)
  clear hn
  go_enter Try.func94, Try.ntmps94
  go_wp2_with fail
  refine (clone_ints _ x.cols P _ (fn _ (below_two w _ _)) hb).mono ?_
  rintro e w1 ⟨a1, n1, c1, rfl, h1, hb1⟩
  obtain ⟨⟨qc, qf, ql⟩, ⟨rc, rf, rl⟩, hW⟩ := two_boxes hb1
  clear fn hb
  go_wp2
  refine bodyPost_ret (v := .agg #[.string x.name, .slice a1 n1 c1, .int .i64 x.root]) (by simp [results, Try.results94, go_sem, rc, rf]) rfl ⟨[.string x.name, .slice a1 n1 c1, .int .i64 x.root], rfl, ⟨_, _, _, rfl, ?_⟩, ?_⟩
  · exact ((h1.mono (Q := fun b => w.heap.size + 2 ≤ b) (fun b hb _ => by simpa [Fresh] using hb)).frame (by (repeat (first | with_reducible exact Same.refl _ _ | with_reducible assumption | (with_reducible refine Same.set ?_ (by first | (simp; done) | (simp; omega) | (unfold Fresh; omega)) _) | with_reducible refine Same.alloc ?_ _ | with_reducible refine Same.drew ?_)))).mono (fun b hb _ => by unfold Fresh; omega)
  · (repeat (first | with_reducible exact Below.refl _ _ | with_reducible assumption | (with_reducible refine Below.setCell ?_ (by first | (simp; done) | (simp; omega)) _) | (with_reducible refine Below.alloc ?_ (by first | (simp; done) | (simp; omega)) _) | with_reducible refine Below.drew ?_))

/-- what 'each' over a copying function comes to -/
def sizes (x : Idx) : Prop := x.cols.length ≤ 1000000

set_option maxRecDepth 100000 in
set_option maxHeartbeats 800000 in
theorem each_idx (v : Value) (l : List Idx) (P : Nat → Prop) (w : World) (h : IdxsAt w P v l) (hl : l.length ≤ 1000000) (hb : ∀ i, i < l.length → (nth l dIdx i).cols.length ≤ 1000000) :
    Calls Try.prog 93 #[v, .func (.func 94) #[] #[]] w fun e w' => ∃ a n c, e = .returned (.slice a n c) ∧ IdxsAt w' (Fresh w) (.slice a n c) l ∧ Below w.heap.size w w' := by
  obtain ⟨rows, hs, hr⟩ := h
  obtain ⟨a, cap, rfl, h1, h2, ⟨rfl, rfl, rfl⟩ | ⟨b, off, rfl, hPb, hbl⟩⟩ := hs.open
  · have hl0 : l = [] := List.eq_nil_of_length_eq_zero hr.1.symm
    subst hl0
    go_enter Try.func93, Try.ntmps93
    go_wp2_with fail
    go_loopw [5, 10] (fun out i wr => out = .slice none 0 0 ∧ i = .int .i64 0 ∧ wr = w) (fun _ i _ => 0)
    case atStart => exact ⟨rfl, rfl, rfl⟩
    case round =>
      obtain ⟨rfl, rfl, rfl⟩ := hrel
      go_wp2
      go_ret
      exact ⟨_, _, _, rfl, ⟨[], SlAt.nil _ _ _, Rel₂.nil⟩, Below.refl _ _⟩
  have hn : rows.length = l.length := hr.1
  have hlen : rows.length ≤ 1000000 := by omega
  have hrl : ∀ i, i < rows.length → ∃ a n c, nth rows [] i = [.string (nth l dIdx i).name, .slice a n c, .int .i64 (nth l dIdx i).root] ∧ IntsAt w P (.slice a n c) (nth l dIdx i).cols := fun i hi => hr.2 i (by omega)
  have hb' : ∀ i, i < rows.length → (nth l dIdx i).cols.length ≤ 1000000 := fun i hi => hb i (by omega)
  have htk : ∀ k, k < rows.length → l.take (k + 1) = l.take k ++ [nth l dIdx k] := fun k hk => take_succ_nth l dIdx (by omega)
  have hfin : l.take rows.length = l := by rw [hn]; exact List.take_length
  have HF := Lib.hid hfin
  clear hfin
  have HN := Lib.hid hn
  clear hn
  go_enter Try.func93, Try.ntmps93
  go_wp2_with fail
  go_loopw [5, 10] (fun out i wr => ∃ k : Nat, k ≤ rows.length ∧ i = .int .i64 k ∧ Coll w 113 3 IdxRow dIdx (l.take k) k out wr) (fun _ i _ => rows.length - (intOf i).toNat)
  case atStart => exact ⟨0, Nat.zero_le _, rfl, Coll.start _ _ _ _ _⟩
  case round =>
    obtain ⟨k, hk, rfl, hcoll⟩ := hrel
    have hbel := hcoll.below
    by_cases hlt : k < rows.length
    · obtain ⟨xa, xn, xc, hrow, hxi⟩ := hrl k hlt
      have c0 : wr.cell? ⟨b, off + k * 3, none⟩ = some (.string (nth l dIdx k).name) := (Same.of_below hbel).cell (P := fun _ => True) trivial (by have := hs.cell hlt (j := 0) (by rw [hrow]; rfl); simpa using this)
      have c1 : wr.cell? ⟨b, off + k * 3 + 1, none⟩ = some (.slice xa xn xc) := (Same.of_below hbel).cell (P := fun _ => True) trivial (hs.cell hlt (j := 1) (by rw [hrow]; rfl))
      have c2 : wr.cell? ⟨b, off + k * 3 + 2, none⟩ = some (.int .i64 (nth l dIdx k).root) := (Same.of_below hbel).cell (P := fun _ => True) trivial (hs.cell hlt (j := 2) (by rw [hrow]; rfl))
      have hxb := hb' k hlt
      have htk1 := Lib.hid (htk k hlt)
      generalize hx : nth l dIdx k = x at *
      clear hrl hb' htk hrow hx
      obtain ⟨oa, oc, rfl⟩ := hcoll.open
      go_wp2_with fail
      refine (idx_copied [.string x.name, .slice xa xn xc, .int .i64 x.root] x P _ ⟨_, _, _, rfl, hxi.frame ((Same.of_below (hbel.mono (Nat.le_refl _))).alloc _)⟩ hxb).mono ?_
      rintro e w1 ⟨r1, rfl, ⟨ya, yn, yc, rfl, hy⟩, hb1⟩
      have hc1 := (hcoll.kept framed_idx ((Below.refl _ _).alloc (Nat.le_refl _) (.cells #[.string x.name, .slice xa xn xc, .int .i64 x.root] 113))).kept framed_idx hb1
      have hsz1 := hb1.size
      simp only [World.size_alloc] at hsz1
      have hsw := hbel.size
      have hy' := hy.mono (Q := fun b => w.heap.size ≤ b ∧ Value.ownBlock (.slice oa k oc) ≠ some b) (fun b hb _ => ⟨by simp [Fresh] at hb; omega, fun e => by have := (hcoll.owns.choose_spec.1.lt b e).2; simp [Fresh] at hb; omega⟩)
      clear hcoll c0 c1 c2 hxi hy
      obtain ⟨rs, ho1, hk1, hf1, hr1⟩ := hc1.owns
      have HK := Lib.hid hk1
      clear hk1
      have hbb := hc1.below
      go_wp2_with (at_builtin; go_must (refine wpList_app rfl _ _ _ rfl elem_idxs rfl (ho1.alloc _) rfl (slat_new [[.string x.name, .slice ya yn yc, .int .i64 x.root]] rfl (by simp) rfl (by simp)) (by simp [Value.oneCell']) (by simp; omega) (by simp; omega) ?_; intro v2 w2 hown2 hg2 _ hl2))
      go_roundw
      case measure => simp [intOf]; omega
      case rel =>
        refine ⟨k + 1, by omega, by go_num, ?_⟩
        rw [htk1.out]
        exact Coll.snoc framed_idx HK.out hf1 (hr1.imp fun _ _ h => h.frame ((Same.refl _ _).alloc _)) (hbb.alloc hbb.size _) ⟨_, _, _, rfl, hy'.frame ((Same.refl _ _).alloc _)⟩ rfl hown2 hg2 hl2
    · have hkk : k = rows.length := by omega
      subst hkk
      go_wp2
      go_ret
      obtain ⟨oa, oc, rfl⟩ := hcoll.open
      rw [HF.out] at hcoll
      exact ⟨_, _, _, rfl, hcoll.done framed_idx, hbel⟩
end Go.Proofs.Ytplafccjgbeojaa
