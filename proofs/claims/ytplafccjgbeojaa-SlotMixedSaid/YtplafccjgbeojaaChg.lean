/- slot.Slot.change -/
import Derived.Test.YtplafccjgbeojaaRep
import Derived.Test.YtplafccjgbeojaaOwn
open Go Go.RowKit
namespace Go.Proofs.Ytplafccjgbeojaa
open Pm

def tabOf (c : List Tab) (id : Int) : Tab := (tabAt c id).getD dTab

theorem change_eq (c : List Tab) (r : Rec) : change c r = ⟨r.kind, (tabOf c r.table).name, (tabOf c r.table).cols.map (·.name), r.old, r.new⟩ := by
  unfold change tabOf
  cases tabAt c r.table <;> rfl

theorem at_calls (C : Nat) (c : List Tab) (P : Nat → Prop) (w : World) (h : CatAt w P C c) (hc : SmallCat c) (id : Int) :
    Calls Try.prog 47 #[.pointer (some ⟨C, 0, none⟩), .int .i64 id] w fun e w' => ∃ r ok, e = .returned (.tuple #[.agg r, .bool ok]) ∧ TabRow w' (Fresh w) r.toList (tabOf c id) ∧ Below w.heap.size w w' := by
  by_cases hid : 1 ≤ id ∧ id ≤ c.length
  · refine (at_some C c P w h hc id hid).mono ?_
    rintro e w' ⟨r, rfl, h1, h2⟩
    exact ⟨_, _, rfl, by simpa [tabOf, tabAt, hid] using h1, h2⟩
  · refine (at_none C c P w h id (by omega)).mono ?_
    rintro e w' ⟨rfl, h2⟩
    refine ⟨_, _, rfl, ?_, h2⟩
    simp only [tabOf, tabAt, hid, if_false, Option.getD_none]
    exact ⟨none, 0, 0, none, 0, 0, rfl, SlAt.nil _ _ _, [], SlAt.nil _ _ _, Rel₂.nil⟩

/-- a record as the program takes it -/
def RecAt (w : World) (P : Nat → Prop) (r : List Value) (x : Rec) : Prop :=
  ∃ a1 n1 c1 a2 n2 c2 ed a3 n3 c3, r = [.int .i64 x.kind, .int .i64 x.xid, .int .i64 x.table, .slice a1 n1 c1, .slice a2 n2 c2, ed, .slice a3 n3 c3, .string x.note] ∧
    RowAt w P (.slice a1 n1 c1) x.old ∧ RowAt w P (.slice a2 n2 c2) x.new ∧ IntsAt w P (.slice a3 n3 c3) x.xids

theorem now_eq {s : Slot} {m : Nat} (h : s.cats.length = m + 1) : s.now = (nth s.cats (0, []) m).2 := by
  unfold Slot.now
  rw [List.getLast?_eq_getElem?, h, nth_eq (by omega)]
  simp [h]

/-- the catalog that is valid now -/
theorem RepP.now {w : World} {K : Nat → Tag} {i S : Nat} {s : Slot} {tv : Value} {M : Nat} {qv : Value} {tr qr : List (List Value)} {G : List (Follow × Nat)} (h : RepP w K i S s tv M qv tr qr G) (hc : s.cats ≠ []) :
    ∃ tb m cap C, tv = .slice (some ⟨tb, 0, none⟩) (m + 1) cap ∧ m + 1 ≤ cap ∧ cap ≤ 9223372036854775807 ∧ w.cell? ⟨tb, m * 2 + 1, none⟩ = some (.pointer (some ⟨C, 0, none⟩)) ∧ CatAt w (Imm K) C s.now := by
  obtain ⟨m, hm⟩ : ∃ m, s.cats.length = m + 1 := ⟨s.cats.length - 1, by have := List.length_pos_iff.2 hc; omega⟩
  have hl := h.times.1
  obtain ⟨C, hr, hC⟩ := h.times.2 m (by omega)
  obtain ⟨a, cap, rfl, h1, h2, ⟨h3, _, _⟩ | ⟨tb, rfl, _, _⟩⟩ := h.trow.open
  · rw [h3] at hl; simp at hl; omega
  · have hs := h.trow.slat
    have hlm : tr.length = m + 1 := by omega
    rw [hlm] at hs h1 ⊢
    refine ⟨tb, m, cap, C, rfl, h1, h2, ?_, by rw [now_eq hm]; exact hC⟩
    have := hs.cell (i := m) (j := 1) (by omega) (by rw [hr]; rfl)
    simpa using this

set_option maxRecDepth 100000 in
set_option maxHeartbeats 1600000 in
theorem chg_calls (Kc : Nat → Tag) (i S : Nat) (s : Slot) (r : List Value) (x : Rec) (P : Nat → Prop) (w : World) (h : Rep w Kc i S s) (hr : RecAt w P r x) (hs : SmallCat s.now) (hsm : (tabOf s.now x.table).cols.length ≤ 1000000) (hcs : s.cats ≠ [])
    (hb : x.old.length ≤ 1000000 ∧ x.new.length ≤ 1000000) (htl : s.cats.length ≤ 1000000) :
    Calls Try.prog 27 #[.pointer (some ⟨S, 0, none⟩), .agg r.toArray] w fun e w' => ∃ r', e = .returned (.agg r'.toArray) ∧ ChangeRow w' (Fresh w) r' (change s.now x) ∧ Below w.heap.size w w' := by
  rw [change_eq]
  obtain ⟨tv, M, qv, tr, qr, G, h⟩ := h
  obtain ⟨tb, m, cap, C, rfl, q1, q2, hcell, hC⟩ := h.now hcs
  have hm : m ≤ 1000000 := by
    have h1 := h.times.1
    have h2 : tr.length = m + 1 := by
      obtain ⟨a, cap, he, _⟩ := h.trow.open
      simp at he; omega
    omega
  obtain ⟨oa, on, oc, wa, wn, wc, ed, xa, xn, xc, rfl, hro, hrw, _⟩ := hr
  have hblk := h.blk
  clear h
  generalize hvo : Value.slice oa on oc = vo at *
  generalize hvw : Value.slice wa wn wc = vw at *
  generalize hvx : Value.slice xa xn xc = vx at *
  have fo : ∀ W, Below w.heap.size w W → RowAt W P vo x.old := fun W h => hro.frame (Same.of_below h)
  have fw : ∀ W, Below w.heap.size w W → RowAt W P vw x.new := fun W h => hrw.frame (Same.of_below h)
  have fC : ∀ W, Below w.heap.size w W → CatAt W (Imm Kc) C s.now := fun W h => hC.frame (Same.of_below h)
  have fc : ∀ W, Below w.heap.size w W → W.cell? ⟨tb, m * 2 + 1, none⟩ = some (.pointer (some ⟨C, 0, none⟩)) := fun W h => (Same.of_below h).cell (P := fun _ => True) trivial hcell
  clear hro hrw hC hcell hvo hvw hvx
  generalize s.now = cat at *
  generalize ht : tabOf cat x.table = t at *
  go_enter Try.func27, Try.ntmps27
  go_wp2_with fail
  refine Code.wp_mono (Q := fun e a' w' => e = .normal ∧ a'.defers = [] ∧ ∃ B ya yn yc za zn zc, (w'.heap[B]? = some (.cells #[.int .i64 t.id, .string t.name, .slice ya yn yc, .slice za zn zc] 110 (0, 0)) ∧ ColsAt w' (fun b => w.heap.size + 2 ≤ b) (.slice ya yn yc) t.cols ∧
      w'.heap[w.heap.size]? = some (.cells #[.int .i64 x.kind, .int .i64 x.xid, .int .i64 x.table, vo, vw, ed, vx, .string x.note] 35 (0, 0)) ∧
      w'.heap[w.heap.size + 1]? = some (.cells #[.int .i64 0, .string ⟨#[]⟩, .slice none 0 0, .slice none 0 0, .slice none 0 0] 48 (0, 0)) ∧ Below w.heap.size w w' ∧ w.heap.size + 2 ≤ B ∧ w.heap.size + 2 ≤ w'.heap.size) ∧
      ∃ u : Nat → Value, a'.tmps = (.pointer (some ⟨S, 0, none⟩) :: u 1 :: u 2 :: .pointer (some ⟨w.heap.size, 0, none⟩) :: .pointer (some ⟨w.heap.size + 1, 0, none⟩) :: .pointer (some ⟨B, 0, none⟩) :: u 6 :: u 7 :: u 8 :: u 9 :: u 10 :: u 11 :: u 12 :: u 13 :: u 14 :: u 15 :: u 16 :: u 17 :: u 18 :: u 19 :: u 20 :: u 21 :: u 22 :: u 23 :: u 24 :: u 25 :: u 26 :: u 27 :: u 28 :: u 29 :: u 30 :: u 31 :: u 32 :: u 33 :: u 34 :: u 35 :: u 36 :: u 37 :: u 38 :: u 39 :: u 40 :: u 41 :: u 42 :: u 43 :: u 44 :: u 45 :: u 46 :: u 47 :: u 48 :: u 49 :: u 50 :: u 51 :: u 52 :: u 53 :: u 54 :: u 55 :: []).toArray) ?_ ?_
  case refine_2 =>
    refine wp_region_tree (Two w (.cells #[.int .i64 x.kind, .int .i64 x.xid, .int .i64 x.table, vo, vw, ed, vx, .string x.note] 35 (0, 0)) (.cells #[.int .i64 0, .string ⟨#[]⟩, .slice none 0 0, .slice none 0 0, .slice none 0 0] 48 (0, 0))) [20] (.seq [(0, 0), (1, 0), (2, 0), (3, 1), (4, 0), (5, 0), (6, 0), (7, 1), (8, 0), (9, 0), (10, 0), (11, 0), (12, 1), (13, 0), (14, 1)] (.fork 15 (.seq [(16, 0), (17, 0), (18, 0), (19, 2), (20, 2), (21, 0)] .done) 19 (.seq [(15, 2), (16, 0), (17, 0), (18, 0), (20, 2), (21, 0)] .done))) (by kernel_rfl) (by kernel_rfl) (fun _ _ d _ _ h => by first | exact absurd h.1 (fun h => by cases h) | (cases d <;> exact h)) (PT.start ?_)
    have hS := (Two.start w (.cells #[.int .i64 x.kind, .int .i64 x.xid, .int .i64 x.table, vo, vw, ed, vx, .string x.note] 35 (0, 0)) (.cells #[.int .i64 0, .string ⟨#[]⟩, .slice none 0 0, .slice none 0 0, .slice none 0 0] 48 (0, 0))).drew
    repeat (first | (refine plan_soft rfl rfl rfl ?_; intro K hK; go_big_quiet_op; go_big_quiet_on) | (refine plan_load hS rfl rfl rfl rfl (fun w' hw' => loadVar_one (by kernel_rfl) (((bfacts (Below.blk hw'.below hblk)).1 _).trans rfl)) ?_; (try simp only [Act.put, List.setIfInBounds_toArray, List.set_cons_zero, List.set_cons_succ])) | (refine plan_load hS rfl rfl rfl rfl (fun w' hw' => loadVar_one (by kernel_rfl) (fc _ hw'.below)) ?_; (try simp only [Act.put, List.setIfInBounds_toArray, List.set_cons_zero, List.set_cons_succ])) | (refine plan_load hS rfl rfl rfl rfl (fun w' hw' => loadVar_one (by kernel_rfl) (((bfacts hw'.fst).1 _).trans rfl)) ?_; (try simp only [Act.put, List.setIfInBounds_toArray, List.set_cons_zero, List.set_cons_succ])))
    (refine pt_fork rfl rfl rfl rfl ?_ ?_ <;> intro K hK)
    · go_wp2_with fail
      refine (at_calls C cat (Imm Kc) _ (fC _ hS.below) hs x.table).mono ?_
      rintro e w1 ⟨rt, ok, rfl, ⟨ya, yn, yc, za, zn, zc, hrt, hy, hz⟩, hb1⟩
      obtain ⟨rt⟩ := rt
      simp only at hrt
      rw [ht] at hrt hy
      subst hrt
      have hS' := hS.step hb1
      refine hK _ _ ⟨fun _ _ => hS', PT.start ?_⟩
      have hy' := hy.mono (Q := fun b => w.heap.size + 2 ≤ b) (fun b hb _ => Nat.le_trans hS.size hb)
      clear hK K hS hy hz hb1 fC fc fo fw
      have hS := hS'
      clear hS'
      (try simp only [Act.put, List.setIfInBounds_toArray, List.set_cons_zero, List.set_cons_succ])
      repeat (first | (refine plan_soft rfl rfl rfl ?_; intro K hK; go_big_quiet_op; go_big_quiet_on))
      refine plan_do rfl rfl ?_; intro K hK
      go_wp2_with fail
      have hS' := hS.alloc (.cells #[.int .i64 0, .string ⟨#[]⟩, .slice none 0 0, .slice none 0 0] 110 (0, 0))
      refine ⟨fun _ _ => hS', ?_⟩
      have hW := hS
      clear hS
      have hS := hS'
      clear hS'
      (try simp only [Act.put, List.setIfInBounds_toArray, List.set_cons_zero, List.set_cons_succ])
      (refine plan_do rfl rfl ?_; intro K hK; go_wp2_with fail; refine ⟨fun h => absurd h (by decide), ?_⟩)
      (try simp only [Act.put, List.setIfInBounds_toArray, List.set_cons_zero, List.set_cons_succ])
      repeat (first | (refine plan_soft rfl rfl rfl ?_; intro K hK; go_big_quiet_op; go_big_quiet_on))
      exact ⟨rfl, rfl, w1.heap.size, ya, yn, yc, za, zn, zc, ⟨heap_alloc_new w1 _, hy'.frame ((Same.refl _ w1).alloc _), (hW.alloc _).fst, (hW.alloc _).snd, (hW.alloc _).below, hW.size, (hW.alloc _).size⟩, forget _ rfl⟩
    · go_wp2_with fail
      have hS' := hS.alloc (.cells #[.int .i64 0, .string ⟨#[]⟩, .slice none 0 0, .slice none 0 0] 110 (0, 0))
      refine ⟨fun _ _ => hS', PT.start ?_⟩
      have hBn := heap_alloc_new (((w.alloc (.cells #[.int .i64 x.kind, .int .i64 x.xid, .int .i64 x.table, vo, vw, ed, vx, .string x.note] 35 (0, 0))).alloc (.cells #[.int .i64 0, .string ⟨#[]⟩, .slice none 0 0, .slice none 0 0, .slice none 0 0] 48 (0, 0))).drew) (.cells #[.int .i64 0, .string ⟨#[]⟩, .slice none 0 0, .slice none 0 0] 110 (0, 0))
      clear hS
      have hS := hS'
      clear hS'
      (try simp only [Act.put, List.setIfInBounds_toArray, List.set_cons_zero, List.set_cons_succ])
      refine plan_do rfl rfl ?_; intro K hK
      go_wp2_with fail
      refine (at_calls C cat (Imm Kc) _ (fC _ hS.below) hs x.table).mono ?_
      rintro e w1 ⟨rt, ok, rfl, ⟨ya, yn, yc, za, zn, zc, hrt, hy, hz⟩, hb1⟩
      obtain ⟨rt⟩ := rt
      simp only at hrt
      rw [ht] at hrt hy
      subst hrt
      have hS' := hS.step hb1
      have hBn' : w1.heap[w.heap.size + 1 + 1]? = some (.cells #[.int .i64 0, .string ⟨#[]⟩, .slice none 0 0, .slice none 0 0] 110 (0, 0)) := by simpa using Below.blk hb1 hBn
      obtain ⟨dc, df, dl⟩ := bfacts hBn'
      refine hK _ _ ⟨fun _ _ => hS', ?_⟩
      have hy' := hy.mono (Q := fun b => w.heap.size + 3 ≤ b) (fun b hb _ => by simp [Fresh] at hb; omega)
      clear hK K hS hy hz hb1 fC fc fo fw hBn
      have hS := hS'
      clear hS'
      (try simp only [Act.put, List.setIfInBounds_toArray, List.set_cons_zero, List.set_cons_succ])
      repeat (first | (refine plan_soft rfl rfl rfl ?_; intro K hK; go_big_quiet_op; go_big_quiet_on))
      (refine plan_do rfl rfl ?_; intro K hK; go_wp2_with fail; refine ⟨fun h => absurd h (by decide), ?_⟩)
      (try simp only [Act.put, List.setIfInBounds_toArray, List.set_cons_zero, List.set_cons_succ])
      repeat (first | (refine plan_soft rfl rfl rfl ?_; intro K hK; go_big_quiet_op; go_big_quiet_on))
      have hW := (((hS.set (a := ⟨w.heap.size + 1 + 1, 0, none⟩) (Nat.le_refl _) (.int .i64 t.id)).set (a := ⟨w.heap.size + 1 + 1, 1, none⟩) (Nat.le_refl _) (.string t.name)).set (a := ⟨w.heap.size + 1 + 1, 2, none⟩) (Nat.le_refl _) (.slice ya yn yc)).set (a := ⟨w.heap.size + 1 + 1, 3, none⟩) (Nat.le_refl _) (.slice za zn zc)
      exact ⟨rfl, rfl, w.heap.size + 1 + 1, ya, yn, yc, za, zn, zc, ⟨(blk_set (blk_set (blk_set (blk_set hBn' 0 _) 1 _) 2 _) 3 _).trans rfl, (hy'.frame (by (repeat (first | with_reducible exact Same.refl _ _ | with_reducible assumption | (with_reducible refine Same.set ?_ (by first | (simp; done) | (simp; omega) | (unfold Fresh; omega)) _) | with_reducible refine Same.alloc ?_ _ | with_reducible refine Same.drew ?_)))).mono (fun b hb _ => by omega), hW.fst, hW.snd, hW.below, Nat.le_refl _, hW.size⟩, forget _ rfl⟩
  rintro e ⟨T, D⟩ W ⟨rfl, hd, B, ya, yn, yc, za, zn, zc, ⟨hB, hy, hR, hZ, hbel, hB2, hW2⟩, u, hT⟩
  simp only at hd hT
  subst hd hT
  have fo' : ∀ W', Below W.heap.size W W' → RowAt W' P vo x.old := fun W' h => fo _ (Below.step hbel (Nat.le_refl _) h)
  have fw' : ∀ W', Below W.heap.size W W' → RowAt W' P vw x.new := fun W' h => fw _ (Below.step hbel (Nat.le_refl _) h)
  clear fC fc hblk ht hs fo fw
  show Exit.then _ _ _ _ _
  go_wp2_with fail
  refine Code.wp_mono (Q := fun e a' w' => e = .normal ∧ a'.defers = [] ∧ ∃ D a1 n1 e1 a2 n2 e2, (w'.heap[D]? = some (.cells #[.int .i64 x.kind, .string t.name, .slice none 0 0, .slice a1 n1 e1, .slice a2 n2 e2] 48 (0, 0)) ∧
      RowAt w' (fun b => w.heap.size + 2 ≤ b ∧ b ≠ D) (.slice a1 n1 e1) x.old ∧ RowAt w' (fun b => w.heap.size + 2 ≤ b ∧ b ≠ D) (.slice a2 n2 e2) x.new ∧ Below W.heap.size W w' ∧ W.heap.size ≤ D) ∧
      ∃ u : Nat → Value, a'.tmps = (u 0 :: u 1 :: u 2 :: u 3 :: .pointer (some ⟨w.heap.size + 1, 0, none⟩) :: .pointer (some ⟨B, 0, none⟩) :: u 6 :: .pointer (some ⟨D, 0, none⟩) :: u 8 :: u 9 :: u 10 :: u 11 :: u 12 :: u 13 :: u 14 :: u 15 :: u 16 :: u 17 :: u 18 :: u 19 :: u 20 :: u 21 :: u 22 :: u 23 :: u 24 :: u 25 :: u 26 :: u 27 :: u 28 :: u 29 :: u 30 :: u 31 :: u 32 :: u 33 :: u 34 :: u 35 :: u 36 :: u 37 :: u 38 :: u 39 :: u 40 :: u 41 :: u 42 :: u 43 :: u 44 :: u 45 :: u 46 :: u 47 :: u 48 :: u 49 :: u 50 :: u 51 :: u 52 :: u 53 :: u 54 :: u 55 :: []).toArray) ?_ ?_
  case refine_2 =>
    refine wp_region_tree (fun W' => Below W.heap.size W W') [12] (.seq [(0, 0), (1, 1), (2, 0), (3, 1), (4, 0), (5, 1), (7, 0), (8, 1)] (.fork 6 (.seq [] (.fork 9 (.seq [(10, 0), (11, 2), (12, 2)] .done) 11 (.seq [(9, 2), (10, 0), (12, 2)] .done))) 11 (.seq [(6, 2), (9, 2), (10, 0), (12, 2)] .done))) (by kernel_rfl) (by kernel_rfl) (fun _ _ d _ _ h => by first | exact absurd h.1 (fun h => by cases h) | (cases d <;> exact h)) (PT.start ?_)
    have hS := (Below.refl W.heap.size W).drew
    repeat (first | (refine plan_soft rfl rfl rfl ?_; intro K hK; go_big_quiet_op; go_big_quiet_on) | (refine plan_load hS rfl rfl rfl rfl (fun w' hw' => loadVar_one (by kernel_rfl) (((bfacts (Below.blk hw' hR)).1 _).trans rfl)) ?_; (try simp only [Act.put, List.setIfInBounds_toArray, List.set_cons_zero, List.set_cons_succ])) | (refine plan_load hS rfl rfl rfl rfl (fun w' hw' => loadVar_one (by kernel_rfl) (((bfacts (Below.blk hw' hB)).1 _).trans rfl)) ?_; (try simp only [Act.put, List.setIfInBounds_toArray, List.set_cons_zero, List.set_cons_succ])))
    (refine pt_fork rfl rfl rfl rfl ?_ ?_ <;> intro K hK)
    · go_wp2_with fail
      refine (row_calls vo x.old P _ (fo' _ hS) hb.1).mono ?_
      rintro e wA ⟨a1, n1, e1, rfl, h1, hb1⟩
      have hS' := Below.step hS (Nat.le_refl _) hb1
      refine hK _ _ ⟨fun _ _ => hS', PT.start ?_⟩
      have h1' := h1.mono (Q := fun b => w.heap.size + 2 ≤ b ∧ b < wA.heap.size) (fun b hb hl => ⟨Nat.le_trans hW2 hb, hl⟩)
      clear hK K hS h1 hb1
      have hS := hS'
      clear hS'
      (try simp only [Act.put, List.setIfInBounds_toArray, List.set_cons_zero, List.set_cons_succ])
      repeat (first | (refine plan_soft rfl rfl rfl ?_; intro K hK; go_big_quiet_op; go_big_quiet_on))
      (refine pt_fork rfl rfl rfl rfl ?_ ?_ <;> intro K hK)
      · go_wp2_with fail
        refine (row_calls vw x.new P _ (fw' _ hS) hb.2).mono ?_
        rintro e wB ⟨a2, n2, e2, rfl, h2, hb2⟩
        have hS' := Below.step hS (Nat.le_refl _) hb2
        refine hK _ _ ⟨fun _ _ => hS', PT.start ?_⟩
        have h2' := h2.mono (Q := fun b => w.heap.size + 2 ≤ b ∧ b < wB.heap.size) (fun b hb hl => ⟨Nat.le_trans hW2 (Nat.le_trans hS.size hb), hl⟩)
        have h1'' := (h1'.frame (Same.of_below hb2)).mono (Q := fun b => w.heap.size + 2 ≤ b ∧ b < wB.heap.size) (fun b hb hl => ⟨hb.1, hl⟩)
        clear hK K hS h2 hb2 h1'
        have hS := hS'
        clear hS'
        (try simp only [Act.put, List.setIfInBounds_toArray, List.set_cons_zero, List.set_cons_succ])
        repeat (first | (refine plan_soft rfl rfl rfl ?_; intro K hK; go_big_quiet_op; go_big_quiet_on))
        refine plan_do rfl rfl ?_; intro K hK
        go_wp2_with fail
        have hS' := hS.alloc hS.size (.cells #[.int .i64 0, .string ⟨#[]⟩, .slice none 0 0, .slice none 0 0, .slice none 0 0] 48 (0, 0))
        refine ⟨fun _ _ => hS', ?_⟩
        (try simp only [Act.put, List.setIfInBounds_toArray, List.set_cons_zero, List.set_cons_succ])
        (refine plan_do rfl rfl ?_; intro K hK; go_wp2_with fail; refine ⟨fun h => absurd h (by decide), ?_⟩)
        (try simp only [Act.put, List.setIfInBounds_toArray, List.set_cons_zero, List.set_cons_succ])
        exact ⟨rfl, rfl, wB.heap.size, a1, n1, e1, a2, n2, e2, ⟨heap_alloc_new wB _, (h1''.frame ((Same.refl _ wB).alloc _)).mono (fun b hb _ => ⟨hb.1, by omega⟩), (h2'.frame ((Same.refl _ wB).alloc _)).mono (fun b hb _ => ⟨hb.1, by omega⟩), hS.alloc hS.size _, hS.size⟩, forget _ rfl⟩
      · go_wp2_with fail
        have hS' := hS.alloc hS.size (.cells #[.int .i64 0, .string ⟨#[]⟩, .slice none 0 0, .slice none 0 0, .slice none 0 0] 48 (0, 0))
        refine ⟨fun _ _ => hS', PT.start ?_⟩
        have hD := heap_alloc_new wA (.cells #[.int .i64 0, .string ⟨#[]⟩, .slice none 0 0, .slice none 0 0, .slice none 0 0] 48 (0, 0))
        have h1'' := h1'.frame ((Same.refl _ wA).alloc (.cells #[.int .i64 0, .string ⟨#[]⟩, .slice none 0 0, .slice none 0 0, .slice none 0 0] 48 (0, 0)))
        have hsA := hS.size
        clear hS h1'
        have hS := hS'
        clear hS'
        (try simp only [Act.put, List.setIfInBounds_toArray, List.set_cons_zero, List.set_cons_succ])
        refine plan_do rfl rfl ?_; intro K hK
        go_wp2_with fail
        refine (row_calls vw x.new P _ (fw' _ hS) hb.2).mono ?_
        rintro e wB ⟨a2, n2, e2, rfl, h2, hb2⟩
        have hS' := Below.step hS (Nat.le_refl _) hb2
        refine hK _ _ ⟨fun _ _ => hS', ?_⟩
        have h2' := h2.mono (Q := fun b => w.heap.size + 2 ≤ b ∧ b ≠ wA.heap.size) (fun b hb hl => by simp [Fresh] at hb; omega)
        have h1x := (h1''.frame (Same.of_below hb2)).mono (Q := fun b => w.heap.size + 2 ≤ b ∧ b ≠ wA.heap.size) (fun b hb hl => ⟨hb.1, by omega⟩)
        have hD' := Below.blk hb2 hD
        obtain ⟨dc, df, dl⟩ := bfacts hD'
        clear hK K hS h2 hb2 h1'' hD
        have hS := hS'
        clear hS'
        (try simp only [Act.put, List.setIfInBounds_toArray, List.set_cons_zero, List.set_cons_succ])
        repeat (first | (refine plan_soft rfl rfl rfl ?_; intro K hK; go_big_quiet_op; go_big_quiet_on))
        (refine plan_do rfl rfl ?_; intro K hK; go_wp2_with fail; refine ⟨fun h => absurd h (by decide), ?_⟩)
        (try simp only [Act.put, List.setIfInBounds_toArray, List.set_cons_zero, List.set_cons_succ])
        exact ⟨rfl, rfl, wA.heap.size, a1, n1, e1, a2, n2, e2, ⟨(blk_set (blk_set (blk_set (blk_set (blk_set hD' 0 _) 1 _) 2 _) 3 _) 4 _).trans rfl, h1x.frame (by (repeat (first | with_reducible exact Same.refl _ _ | with_reducible assumption | (with_reducible refine Same.set ?_ (by first | (simp; done) | (simp; omega) | (unfold Fresh; omega)) _) | with_reducible refine Same.alloc ?_ _ | with_reducible refine Same.drew ?_))), h2'.frame (by (repeat (first | with_reducible exact Same.refl _ _ | with_reducible assumption | (with_reducible refine Same.set ?_ (by first | (simp; done) | (simp; omega) | (unfold Fresh; omega)) _) | with_reducible refine Same.alloc ?_ _ | with_reducible refine Same.drew ?_))), ((((hS.setCell hsA _).setCell hsA _).setCell hsA _).setCell hsA _).setCell hsA _, hsA⟩, forget _ rfl⟩
    · go_wp2_with fail
      have hS' := hS.alloc hS.size (.cells #[.int .i64 0, .string ⟨#[]⟩, .slice none 0 0, .slice none 0 0, .slice none 0 0] 48 (0, 0))
      refine ⟨fun _ _ => hS', PT.start ?_⟩
      have hD := heap_alloc_new W.drew (.cells #[.int .i64 0, .string ⟨#[]⟩, .slice none 0 0, .slice none 0 0, .slice none 0 0] 48 (0, 0))
      clear hS
      have hS := hS'
      clear hS'
      (try simp only [Act.put, List.setIfInBounds_toArray, List.set_cons_zero, List.set_cons_succ])
      refine plan_do rfl rfl ?_; intro K hK
      go_wp2_with fail
      refine (row_calls vo x.old P _ (fo' _ hS) hb.1).mono ?_
      rintro e wA ⟨a1, n1, e1, rfl, h1, hb1⟩
      have hS' := Below.step hS (Nat.le_refl _) hb1
      refine hK _ _ ⟨fun _ _ => hS', ?_⟩
      have h1' := h1.mono (Q := fun b => w.heap.size + 2 ≤ b ∧ b ≠ W.heap.size) (fun b hb hl => by simp [Fresh] at hb; omega)
      have hsA := hb1.size
      simp only [World.size_alloc, World.size_drew] at hsA
      have hD' := Below.blk hb1 hD
      clear hK K hS h1 hb1 hD
      have hS := hS'
      clear hS'
      (try simp only [Act.put, List.setIfInBounds_toArray, List.set_cons_zero, List.set_cons_succ])
      repeat (first | (refine plan_soft rfl rfl rfl ?_; intro K hK; go_big_quiet_op; go_big_quiet_on))
      refine plan_do rfl rfl ?_; intro K hK
      go_wp2_with fail
      refine (row_calls vw x.new P _ (fw' _ hS) hb.2).mono ?_
      rintro e wB ⟨a2, n2, e2, rfl, h2, hb2⟩
      have hS' := Below.step hS (Nat.le_refl _) hb2
      refine hK _ _ ⟨fun _ _ => hS', ?_⟩
      have h2' := h2.mono (Q := fun b => w.heap.size + 2 ≤ b ∧ b ≠ W.heap.size) (fun b hb hl => by simp [Fresh] at hb; omega)
      have h1x := h1'.frame (Same.of_below hb2)
      have hDx := Below.blk hb2 hD'
      simp only [World.size_drew] at hDx
      obtain ⟨dc, df, dl⟩ := bfacts hDx
      clear hK K hS h2 hb2 h1' hD'
      have hS := hS'
      clear hS'
      (try simp only [Act.put, List.setIfInBounds_toArray, List.set_cons_zero, List.set_cons_succ])
      repeat (first | (refine plan_soft rfl rfl rfl ?_; intro K hK; go_big_quiet_op; go_big_quiet_on))
      (refine plan_do rfl rfl ?_; intro K hK; go_wp2_with fail; refine ⟨fun h => absurd h (by decide), ?_⟩)
      (try simp only [Act.put, List.setIfInBounds_toArray, List.set_cons_zero, List.set_cons_succ])
      exact ⟨rfl, rfl, W.heap.size, a1, n1, e1, a2, n2, e2, ⟨(blk_set (blk_set (blk_set (blk_set (blk_set hDx 0 _) 1 _) 2 _) 3 _) 4 _).trans rfl, h1x.frame (by (repeat (first | with_reducible exact Same.refl _ _ | with_reducible assumption | (with_reducible refine Same.set ?_ (by first | (simp; done) | (simp; omega) | (unfold Fresh; omega)) _) | with_reducible refine Same.alloc ?_ _ | with_reducible refine Same.drew ?_))), h2'.frame (by (repeat (first | with_reducible exact Same.refl _ _ | with_reducible assumption | (with_reducible refine Same.set ?_ (by first | (simp; done) | (simp; omega) | (unfold Fresh; omega)) _) | with_reducible refine Same.alloc ?_ _ | with_reducible refine Same.drew ?_))), ((((hS.setCell (Nat.le_refl _) _).setCell (Nat.le_refl _) _).setCell (Nat.le_refl _) _).setCell (Nat.le_refl _) _).setCell (Nat.le_refl _) _, Nat.le_refl _⟩, forget _ rfl⟩
  rintro e ⟨T, Df⟩ W2 ⟨rfl, hd, D, a1, n1, e1, a2, n2, e2, ⟨hD, h1, h2, hbel2, hDW⟩, u, hT⟩
  simp only at hd hT
  subst hd hT
  have hB' := Below.blk hbel2 hB
  have hZ' := Below.blk hbel2 hZ
  have hDne : D ≠ w.heap.size + 1 := by omega
  obtain ⟨bc, bf, bl⟩ := bfacts hB'
  obtain ⟨dc, df, dl⟩ := bfacts hD
  have hy2 : ColsAt W2 (fun b => w.heap.size + 2 ≤ b ∧ b < W.heap.size) (.slice ya yn yc) t.cols := (hy.mono (fun b hb hl => ⟨hb, hl⟩)).frame (Same.of_below hbel2 |>.mono fun b hb => hb)
  have hbelw := Below.step hbel (Nat.le_refl _) hbel2
  have hZ2 := hZ'
  clear fo' fw' hB hZ hy hR hB' hbel2 hbel
  show Exit.then _ _ _ _ _
  rcases hy2.open with ⟨a, cap, he, q3, q4, ⟨h0, rfl, rfl⟩ | ⟨cb, off, rfl, hcb, hcl⟩⟩
  · simp only [Value.slice.injEq] at he
    obtain ⟨rfl, rfl, rfl⟩ := he
    have ht0 : t.cols = [] := by simpa using h0
    have hl0 : (List.map cCol t.cols).length = 0 := by simp [ht0]
    rw [hl0] at bc
    go_wp2_with fail
    go_loopw [43] (fun i wr => i = .int .i64 0 ∧ wr = W2) (fun _ _ => 0)
    case atStart => exact ⟨rfl, rfl⟩
    case round =>
      obtain ⟨rfl, rfl⟩ := hrel
      obtain ⟨zc', zf, zl⟩ := bfacts hZ2
      go_wp2
      refine bodyPost_ret (v := .agg #[.int .i64 x.kind, .string t.name, .slice none 0 0, .slice a1 n1 e1, .slice a2 n2 e2]) (by simp [results, Try.results27, go_sem, zc', zf]) rfl ⟨[.int .i64 x.kind, .string t.name, .slice none 0 0, .slice a1 n1 e1, .slice a2 n2 e2], rfl, ⟨_, _, _, _, _, _, _, _, _, rfl, ?_, ?_, ?_⟩, ?_⟩
      · rw [ht0]; exact SlAt.nil _ _ _
      · exact ((h1.mono (Q := fun b => w.heap.size + 2 ≤ b) (fun b hb _ => hb.1)).frame (by (repeat (first | with_reducible exact Same.refl _ _ | with_reducible assumption | (with_reducible refine Same.set ?_ (by first | (simp; done) | (simp; omega) | (unfold Fresh; omega)) _) | with_reducible refine Same.alloc ?_ _ | with_reducible refine Same.drew ?_)))).mono (fun b hb _ => by unfold Fresh; omega)
      · exact ((h2.mono (Q := fun b => w.heap.size + 2 ≤ b) (fun b hb _ => hb.1)).frame (by (repeat (first | with_reducible exact Same.refl _ _ | with_reducible assumption | (with_reducible refine Same.set ?_ (by first | (simp; done) | (simp; omega) | (unfold Fresh; omega)) _) | with_reducible refine Same.alloc ?_ _ | with_reducible refine Same.drew ?_)))).mono (fun b hb _ => by unfold Fresh; omega)
      · (repeat (first | with_reducible exact Below.refl _ _ | with_reducible assumption | (with_reducible refine Below.setCell ?_ (by first | (simp; done) | (simp; omega)) _) | (with_reducible refine Below.alloc ?_ (by first | (simp; done) | (simp; omega)) _) | with_reducible refine Below.drew ?_))
  · simp only [Value.slice.injEq] at he
    obtain ⟨rfl, rfl, rfl⟩ := he
    have hln : (List.map cCol t.cols).length = t.cols.length := by simp
    rw [hln] at hy2 q3 bc
    clear hln
    have hcn : t.cols.length ≤ 1000000 := hsm
    generalize hcs : t.cols = cs at *
    have hcells : ∀ j, j < cs.length → W2.cell? ⟨cb, off + j * 2, none⟩ = some (.string (nth cs dCol j).name) ∧ W2.cell? ⟨cb, off + j * 2 + 1, none⟩ = some (.int .i64 (nth cs dCol j).kind) := fun j hj => by
      have e : nth (cs.map cCol) [] j = cCol (nth cs dCol j) := nth_map cCol cs dCol [] hj
      refine ⟨?_, ?_⟩
      · have := SlAt.cell (i := j) (j := 0) hy2 (by simpa using hj) (by rw [e]; rfl)
        simpa using this
      · exact SlAt.cell (i := j) (j := 1) hy2 (by simpa using hj) (by rw [e]; rfl)
    have hcbD : cb ≠ D := by omega
    have hDlt : D < W2.heap.size := dl
    have htk : ∀ k, k < cs.length → cs.take (k + 1) = cs.take k ++ [nth cs dCol k] := fun k hk => take_succ_nth cs dCol hk
    have hD0 : W2.heap[D]? = some (.cells #[.int .i64 x.kind, .string t.name, .slice none 0 0, .slice a1 n1 e1, .slice a2 n2 e2] 48 (0, 0)) := hD
    go_wp2_with fail
    go_loopw [43] (fun i wr => ∃ k na nn nc, k ≤ cs.length ∧ i = .int .i64 (k : Nat) ∧ wr.heap[D]? = some (.cells #[.int .i64 x.kind, .string t.name, .slice na nn nc, .slice a1 n1 e1, .slice a2 n2 e2] 48 (0, 0)) ∧
      wr.ownsRow 0 9 1 (.slice na nn nc) k (((cs.take k).map (fun c => cStr c.name)).flatten) ∧ (∀ b, Value.ownBlock (.slice na nn nc) = some b → W2.heap.size ≤ b) ∧ W2.grownBy wr (some D)) (fun i _ => cs.length - (intOf i).toNat)
    case atStart => exact ⟨0, none, 0, 0, Nat.zero_le _, rfl, hD0, World.ownsRow_nil _ _ _ _, by simp [Value.ownBlock], ⟨rfl, rfl, rfl, Nat.le_refl _, fun _ _ _ => rfl⟩⟩
    case round =>
      obtain ⟨k, na, nn, nc, hk, rfl, hDr, hown, hfr, hg⟩ := hrel
      by_cases hlt : k < cs.length
      · obtain ⟨c0, c1⟩ := hcells k hlt
        have htk1 := Lib.hid (htk k hlt)
        have c0' : wr.cell? ⟨cb, off + k * 2, none⟩ = some (.string (nth cs dCol k).name) := (Same.grown (P := fun b => b ≠ D) hg (fun b hb e => hb (by simpa using e))).cell hcbD c0
        have c1' : wr.cell? ⟨cb, off + k * 2 + 1, none⟩ = some (.int .i64 (nth cs dCol k).kind) := (Same.grown (P := fun b => b ≠ D) hg (fun b hb e => hb (by simpa using e))).cell hcbD c1
        generalize nth cs dCol k = y at *
        obtain ⟨rc, rf, rl⟩ := bfacts hDr
        clear hcells htk c0 c1 bc bf bl dc df dl hD hD0 hZ' hZ2
        have hDl : D < W2.heap.size := hDlt
        have hne : Value.ownBlock (.slice na nn nc) ≠ some D := fun e => by have := hfr D e; omega
        clear rc rf
        have hDr0 := hDr
        obtain ⟨rc, rf, _⟩ := bfacts hDr0
        have hx1 := slat_new (w := wr.alloc (.cells #[.string y.name, .int .i64 y.kind] 55)) (e := 9) (cs := #[.string y.name]) (k := 1) (m := 1) [[.string y.name]] rfl (by simp) rfl (by simp)
        simp only [World.size_alloc] at hx1
        go_wp2_with (at_builtin; go_must (refine wpList_app (rows' := [[.string y.name]]) rfl _ _ _ rfl elem_strs rfl ((hown.alloc _).alloc _) rfl hx1 (by simp [Value.oneCell']) (by show k + 1 ≤ 9223372036854775807; omega) (by show (k + 1) * 16 ≤ 140737488355328; omega) ?_; intro v2 w2 hown2 hg2 _ hl2; obtain ⟨sa, sn, rfl⟩ := owns_open hown2; change Value.ownBlock (.slice sa (k + 1) sn) = _ ∨ Value.ownBlock (.slice sa (k + 1) sn) = _ at hl2; have hD2 := (hg2.block D (by simp; omega) (fun e => hne e.symm)).trans (Below.blk (below_two wr _ _) hDr); obtain ⟨sc, sf, sl⟩ := bfacts hD2))
        go_roundw
        case measure => simp [intOf]; omega
        case rel =>
          have hn2 : Value.ownBlock (.slice sa (k + 1) sn) ≠ some D := by
            rcases hl2 with e | e
            · rw [e]; exact hne
            · rw [e]; simp; omega
          refine ⟨k + 1, sa, k + 1, sn, by omega, by go_num, (blk_set hD2 2 _).trans rfl, ?_, ?_, ?_⟩
          · rw [htk1.out, List.map_append]
            exact hown2.kept (grown_set w2 ⟨D, 2, none⟩ _) (.inr hn2)
          · intro b hb
            rcases hl2 with e | e
            · exact hfr b (e ▸ hb)
            · rw [e] at hb; have := hg.size; simp at hb; omega
          · refine (World.grownBy.andThen (World.grownBy.andThen (World.grownBy.andThen hg (grown_of_below (below_two wr _ _)) (by simp)) hg2 ?_) (grown_set w2 ⟨D, 2, none⟩ _) (fun j e => .inr e))
            intro j e
            exact .inl (hfr j e)
      · have hkk : k = cs.length := by omega
        subst hkk
        obtain ⟨rc, rf, rl⟩ := bfacts hDr
        have hgs := hg.size
        have hZr := (hg.block (w.heap.size + 1) (by omega) (by simp; omega)).trans hZ2
        obtain ⟨zc', zf, zl⟩ := bfacts hZr
        have hw1 : Below w.heap.size w wr := hbelw.trans ⟨hg.os, hg.tape, hg.output, hg.size, fun j hj => hg.block j (by omega) (by simp; omega)⟩
        rw [List.take_length] at hown
        have hnm : StrsAt wr (fun b => W2.heap.size ≤ b) (.slice na nn nc) (cs.map (·.name)) := by
          have := SlAt.of_owns hown (P := fun b => W2.heap.size ≤ b) (by simp) (by simp [cStr]) hfr
          unfold StrsAt
          rw [List.map_map]
          exact this
        have h1' : RowAt wr (fun b => w.heap.size + 2 ≤ b) (.slice a1 n1 e1) x.old := (h1.frame (Same.grown hg (fun b hb e => hb.2 (by simpa using e)))).mono (fun b hb _ => hb.1)
        have h2' : RowAt wr (fun b => w.heap.size + 2 ≤ b) (.slice a2 n2 e2) x.new := (h2.frame (Same.grown hg (fun b hb e => hb.2 (by simpa using e)))).mono (fun b hb _ => hb.1)
        clear hcells htk bc bf dc df hown
        go_wp2
        refine bodyPost_ret (v := .agg #[.int .i64 x.kind, .string t.name, .slice na nn nc, .slice a1 n1 e1, .slice a2 n2 e2]) (by simp [results, Try.results27, go_sem, zc', zf]) rfl ⟨[.int .i64 x.kind, .string t.name, .slice na nn nc, .slice a1 n1 e1, .slice a2 n2 e2], rfl, ⟨_, _, _, _, _, _, _, _, _, rfl, ?_, ?_, ?_⟩, ?_⟩
        · show StrsAt _ (Fresh w) (.slice na nn nc) (t.cols.map (·.name))
          rw [hcs]
          exact ((hnm.mono (Q := fun b => w.heap.size + 2 ≤ b) (fun b hb _ => by omega)).frame (by (repeat (first | with_reducible exact Same.refl _ _ | with_reducible assumption | (with_reducible refine Same.set ?_ (by first | (simp; done) | (simp; omega) | (unfold Fresh; omega)) _) | with_reducible refine Same.alloc ?_ _ | with_reducible refine Same.drew ?_)))).mono (fun b hb _ => by unfold Fresh; omega)
        · exact (h1'.frame (by (repeat (first | with_reducible exact Same.refl _ _ | with_reducible assumption | (with_reducible refine Same.set ?_ (by first | (simp; done) | (simp; omega) | (unfold Fresh; omega)) _) | with_reducible refine Same.alloc ?_ _ | with_reducible refine Same.drew ?_)))).mono (fun b hb _ => by unfold Fresh; omega)
        · exact (h2'.frame (by (repeat (first | with_reducible exact Same.refl _ _ | with_reducible assumption | (with_reducible refine Same.set ?_ (by first | (simp; done) | (simp; omega) | (unfold Fresh; omega)) _) | with_reducible refine Same.alloc ?_ _ | with_reducible refine Same.drew ?_)))).mono (fun b hb _ => by unfold Fresh; omega)
        · (repeat (first | with_reducible exact Below.refl _ _ | with_reducible assumption | (with_reducible refine Below.setCell ?_ (by first | (simp; done) | (simp; omega)) _) | (with_reducible refine Below.alloc ?_ (by first | (simp; done) | (simp; omega)) _) | with_reducible refine Below.drew ?_))
end Go.Proofs.Ytplafccjgbeojaa
