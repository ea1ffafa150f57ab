/- slot.Slot.Name, Acked, Open, Spilled, Need -/
import Derived.Test.YtplafccjgbeojaaQue
open Go Go.RowKit
namespace Go.Proofs.Ytplafccjgbeojaa
open Pm

theorem name_nil (w : World) : Calls Try.prog 20 #[.pointer none] w fun e w' => e = .returned (.string .empty) ∧ w' = w := by
  go_enter Try.func20, Try.ntmps20
  go_wp2
  go_ret
  exact ⟨rfl, rfl⟩
theorem acked_nil (w : World) : Calls Try.prog 21 #[.pointer none] w fun e w' => e = .returned (.int .i64 0) ∧ w' = w := by
  go_enter Try.func21, Try.ntmps21
  go_wp2
  go_ret
  exact ⟨rfl, rfl⟩
theorem open_nil (w : World) : Calls Try.prog 14 #[.pointer none] w fun e w' => e = .returned (.int .i64 0) ∧ w' = w := by
  go_enter Try.func14, Try.ntmps14
  go_wp2
  go_ret
  exact ⟨rfl, rfl⟩
theorem need_nil (w : World) : Calls Try.prog 22 #[.pointer none] w fun e w' => e = .returned (.int .i64 0) ∧ w' = w := by
  go_enter Try.func22, Try.ntmps22
  go_wp2
  go_ret
  exact ⟨rfl, rfl⟩
theorem spilled_nil (w : World) : Calls Try.prog 15 #[.pointer none] w fun e w' => e = .returned (.int .i64 0) ∧ w' = w := by
  go_enter Try.func15, Try.ntmps15
  go_wp2
  go_ret
  exact ⟨rfl, rfl⟩
theorem bytes_nil (w : World) : Calls Try.prog 23 #[.pointer none] w fun e w' => e = .returned (.string .empty) ∧ w' = w := by
  go_enter Try.func23, Try.ntmps23
  go_wp2
  go_ret
  exact ⟨rfl, rfl⟩
theorem ack_nil (n : Int) (w : World) : Calls Try.prog 19 #[.pointer none, .int .i64 n] w fun e w' => e = .returned (.int .i64 70) ∧ Below w.heap.size w w' := by
  go_enter Try.func19, Try.ntmps19
  go_wp2
  go_ret
  exact ⟨rfl, by (repeat (first | with_reducible exact Below.refl _ _ | with_reducible assumption | (with_reducible refine Below.setCell ?_ (by first | (simp; done) | (simp; omega)) _) | (with_reducible refine Below.alloc ?_ (by first | (simp; done) | (simp; omega)) _) | with_reducible refine Below.drew ?_))⟩

section
variable {K : Nat → Tag} {i S : Nat} {s : Slot} {w : World}
theorem name_calls (h : Rep w K i S s) : Calls Try.prog 20 #[.pointer (some ⟨S, 0, none⟩)] w fun e w' => e = .returned (.string s.name) ∧ w' = w := by
  obtain ⟨tv, M, qv, tr, qr, G, h⟩ := h
  obtain ⟨sc, sf, sl⟩ := bfacts h.blk
  clear h
  go_enter Try.func20, Try.ntmps20
  go_wp2
  go_ret
  exact ⟨rfl, rfl⟩
theorem acked_calls (h : Rep w K i S s) : Calls Try.prog 21 #[.pointer (some ⟨S, 0, none⟩)] w fun e w' => e = .returned (.int .i64 s.acked) ∧ w' = w := by
  obtain ⟨tv, M, qv, tr, qr, G, h⟩ := h
  obtain ⟨sc, sf, sl⟩ := bfacts h.blk
  clear h
  go_enter Try.func21, Try.ntmps21
  go_wp2
  go_ret
  exact ⟨rfl, rfl⟩
theorem open_calls (h : Rep w K i S s) : Calls Try.prog 14 #[.pointer (some ⟨S, 0, none⟩)] w fun e w' => e = .returned (.int .i64 s.follows.length) ∧ w' = w := by
  obtain ⟨tv, M, qv, tr, qr, G, h⟩ := h
  obtain ⟨sc, sf, sl⟩ := bfacts h.blk
  have hlen := fun ty => h.map.len (P := Try.prog) (t := 68) Try.underlying68 ty
  have hGl : (G.map keyF).length = s.follows.length := by rw [← h.fol]; simp
  rw [hGl] at hlen
  clear h hGl
  go_enter Try.func14, Try.ntmps14
  go_wp2
  go_ret
  exact ⟨rfl, rfl⟩

theorem Ranging.left_eq {M r : Nat} {fs left : List (Int × Nat)} (h : Ranging w M r fs left) : w.rangeLeft M r = left.length := by
  obtain ⟨es, clock, since, seen, c0, h1, h2, h3, h4, h5, h6, h7⟩ := h
  simp only [World.rangeLeft, h1, h3]
  have := congrArg List.length h6
  simpa using this

theorem sum_erase (v : Follow × Nat → Nat) : ∀ (l : List (Follow × Nat)) (j : Nat) (g : Follow × Nat), l[j]? = some g → (l.map v).sum = v g + ((l.eraseIdx j).map v).sum
  | [], _, _, h => by simp at h
  | a :: l, 0, g, h => by simp at h; subst h; simp
  | a :: l, j + 1, g, h => by
    rw [List.getElem?_cons_succ] at h
    have := sum_erase v l j g h
    simp; omega

def mn (a : Int) (l : List Int) : Int := l.foldl min a
theorem mn_min : ∀ (l : List Int) (a b : Int), mn (min a b) l = min (mn a l) b
  | [], _, _ => rfl
  | c :: l, a, b => by
    show mn (min (min a b) c) l = min (mn (min a c) l) b
    rw [← mn_min l (min a c) b]
    congr 1; omega
theorem mn_erase (f : Follow × Nat → Int) : ∀ (l : List (Follow × Nat)) (j : Nat) (g : Follow × Nat) (a : Int), l[j]? = some g → mn a (l.map f) = mn (min a (f g)) ((l.eraseIdx j).map f)
  | [], _, _, _, h => by simp at h
  | c :: l, 0, g, a, h => by simp at h; subst h; rfl
  | c :: l, j + 1, g, a, h => by
    rw [List.getElem?_cons_succ] at h
    have := mn_erase f l j g (min a (f c)) h
    show mn (min a (f c)) (l.map f) = mn (min (min a (f g)) (f c)) ((l.eraseIdx j).map f)
    rw [this]
    congr 1; omega

def spilled (s : Slot) : Nat := (s.follows.map fun f => f.turns.length - 16).sum

theorem spilled_le : ∀ l : List Follow, (l.map fun f => f.turns.length - 16).sum ≤ (l.map (·.turns.length)).sum
  | [] => by simp
  | f :: l => by have := spilled_le l; simp; omega

set_option maxRecDepth 100000 in
set_option maxHeartbeats 800000 in
theorem spilled_calls {m : Nat} (h : Rep w K i S s) (hfit : Fits s m) : Calls Try.prog 15 #[.pointer (some ⟨S, 0, none⟩)] w fun e w' => e = .returned (.int .i64 (spilled s)) ∧ Below w.heap.size w w' := by
  obtain ⟨tv, M, qv, tr, qr, G, h⟩ := h
  obtain ⟨sc, sf, sl⟩ := bfacts h.blk
  have hsum : spilled s = (G.map fun g => g.1.turns.length - 16).sum := by unfold spilled; rw [← h.fol, List.map_map]; rfl
  have hb : spilled s ≤ 1000000 := by have := spilled_le s.follows; have := hfit.turns; have := hfit.le; unfold spilled; omega
  have hMl := h.map.lt
  obtain ⟨w1, hrange, hrg, hb1, hs1⟩ := h.map.range (P := Try.prog) (t := 68) Try.underlying68
  have heach : ∀ g ∈ G, ∃ a c, w.cell? ⟨g.2, 2, none⟩ = some (.slice a (g.1.turns.length - 16) c) ∧ g.2 < w.heap.size := fun g hg => by
    obtain ⟨hv, sv, r1, r2, q1, q2, q3, q4, q5, q6, q7⟩ := h.each g hg
    obtain ⟨a, c, rfl, _⟩ := q4.open
    have hl := q5.1
    simp only [List.length_append] at hl
    have : r2.length = g.1.turns.length - 16 := by
      rcases q7 with rfl | q7
      · simp at hl ⊢; omega
      · omega
    rw [this] at q1
    exact ⟨a, c, by rw [(bfacts q1).1]; rfl, lt_of_block q1⟩
  clear h hfit
  go_enter Try.func15, Try.ntmps15
  go_wp2_with fail
  go_loopw [3] (fun n wr => ∃ (Lg : List (Follow × Nat)) (a : Nat), n = .int .i64 a ∧ a + (Lg.map fun g => g.1.turns.length - 16).sum = spilled s ∧ (∀ g ∈ Lg, g ∈ G) ∧ Ranging wr M w.heap.size (G.map keyF) (Lg.map keyF) ∧ Below w.heap.size w wr) (fun _ wr => wr.rangeLeft M w.heap.size)
  case atStart => exact ⟨G, 0, rfl, by rw [hsum]; omega, fun g hg => hg, hrg, hb1⟩
  case round =>
    obtain ⟨Lg, a, rfl, ha, hsub, hrr, hbw⟩ := hrel
    have hm := hrr.left_eq
    rcases hrr.next (P := Try.prog) 0 with ⟨hl, hrun⟩ | ⟨j, x, F, w', hj, hget, hmem, hrun, hrg2, hgrow, hsz, hentry⟩
    · have hLg : Lg = [] := by simpa using hl
      subst hLg
      have ha' : a = spilled s := by simpa using ha
      subst ha'
      clear hm hrr hrg heach hrange ha hsum
      go_wp2
      go_ret
      exact ⟨rfl, hbw⟩
    · rw [List.getElem?_map] at hget
      obtain ⟨g, hg, hge⟩ := Option.map_eq_some_iff.1 hget
      have hgF : g.2 = F := congrArg Prod.snd hge
      obtain ⟨ca, cc, hc, hFl⟩ := heach g (hsub g (List.mem_of_getElem? hg))
      rw [hgF] at hc hFl
      have hbw' : Below w.heap.size w w' := hbw.trans ⟨hgrow.os, hgrow.tape, hgrow.output, hgrow.size, fun b hb => hgrow.block b (Nat.lt_of_lt_of_le hb hbw.size) (by simp; omega)⟩
      have hc' : w'.cell? ⟨F, 2, none⟩ = some (.slice ca (g.1.turns.length - 16) cc) := (Same.of_below hbw').cell (P := fun _ => True) trivial hc
      have hse := sum_erase (fun g => g.1.turns.length - 16) Lg j g hg
      have hle : a + (g.1.turns.length - 16) ≤ 1000000 := by omega
      have hrg3 : Ranging w' M w.heap.size (G.map keyF) ((Lg.eraseIdx j).map keyF) := by rw [Go.ChangeMaps.map_eraseIdx]; exact hrg2
      have hm2 := hrg3.left_eq
      have hjl : j < Lg.length := by simpa using hj
      have hel := List.length_eraseIdx_of_lt hjl
      have hsub' : ∀ g ∈ Lg.eraseIdx j, g ∈ G := fun g hg => hsub g ((List.eraseIdx_sublist _ _).subset hg)
      have HA : Go.RowKit.Hid (a + (g.1.turns.length - 16) + ((Lg.eraseIdx j).map fun g => g.1.turns.length - 16).sum = spilled s) := Lib.hid (by omega)
      generalize g.1.turns.length - 16 = gl at *
      have HM := Lib.hid hm
      have HM2 := Lib.hid hm2
      have HE := Lib.hid hel
      clear hm hm2 hel hrr hrg heach hrange ha hsum hget hge hse hrg2
      go_wp2
      go_roundw
      case measure => rw [HM.out, HM2.out]; simp; have := HE.out; omega
      case rel => exact ⟨Lg.eraseIdx j, a + gl, by go_num, HA.out, hsub', hrg3, hbw'⟩

def need (s : Slot) : Int := mn (mn (s.last + 1) (s.follows.map (·.first))) (s.queue.map (·.first))

theorem mn_snoc (a : Int) (l : List Int) (x : Int) : mn a (l ++ [x]) = min (mn a l) x := by simp [mn]

set_option maxRecDepth 100000 in
set_option maxHeartbeats 800000 in
theorem need_calls {m : Nat} (h : Rep w K i S s) (hfit : Fits s m) (hlast : -4611686018427387904 ≤ s.last ∧ s.last ≤ 4611686018427387904) :
    Calls Try.prog 22 #[.pointer (some ⟨S, 0, none⟩)] w fun e w' => e = .returned (.int .i64 (need s)) ∧ Below w.heap.size w w' := by
  obtain ⟨tv, M, qv, tr, qr, G, h⟩ := h
  have hqf := hfit.queue
  have hle := hfit.le
  have hql := h.queue.1
  obtain ⟨qa, qc, rfl, hq1, hq2, hq3⟩ := h.qrow.open
  rw [hql] at h hq1
  have HQ := Lib.hid hql
  clear hql
  obtain ⟨sc, sf, sl⟩ := bfacts h.blk
  have hblk := h.blk
  have hfirst : s.follows.map (·.first) = G.map fun g => g.1.first := by rw [← h.fol, List.map_map]; rfl
  have HN : Go.RowKit.Hid (need s = mn (mn (s.last + 1) (G.map fun g => g.1.first)) (s.queue.map (·.first))) := Lib.hid (by unfold need; rw [hfirst])
  have hMl := h.map.lt
  obtain ⟨w1, hrange, hrg, hb1, hs1⟩ := h.map.range (P := Try.prog) (t := 68) Try.underlying68
  have heach : ∀ g ∈ G, w.cell? ⟨g.2, 0, none⟩ = some (.int .i64 g.1.first) ∧ g.2 < w.heap.size := fun g hg => by
    obtain ⟨hv, sv, r1, r2, q1, q2, q3, q4, q5, q6, q7⟩ := h.each g hg
    exact ⟨by rw [(bfacts q1).1]; rfl, lt_of_block q1⟩
  have hslat := h.qrow.slat
  have hqu := h.queue
  generalize need s = nd at *
  clear h hfit hfirst
  go_enter Try.func22, Try.ntmps22
  go_wp2_with fail
  go_loopw [3] (fun n wr => ∃ (Lg : List (Follow × Nat)) (a : Int), n = .int .i64 a ∧ mn a (Lg.map fun g => g.1.first) = mn (s.last + 1) (G.map fun g => g.1.first) ∧ (∀ g ∈ Lg, g ∈ G) ∧ Ranging wr M w.heap.size (G.map keyF) (Lg.map keyF) ∧ Below w.heap.size w wr) (fun _ wr => wr.rangeLeft M w.heap.size)
  case atStart => exact ⟨G, s.last + 1, by go_num, rfl, fun g hg => hg, hrg, hb1⟩
  case round =>
    obtain ⟨Lg, a, rfl, ha, hsub, hrr, hbw⟩ := hrel
    have hm := hrr.left_eq
    rcases hrr.next (P := Try.prog) 0 with ⟨hl, hrun⟩ | ⟨j, x, F, w', hj, hget, hmem, hrun, hrg2, hgrow, hsz, hentry⟩
    · have hLg : Lg = [] := by simpa using hl
      subst hLg
      have ha' : a = mn (s.last + 1) (G.map fun g => g.1.first) := by simpa [mn] using ha
      rw [← ha'] at HN
      obtain ⟨uc, uf, ul⟩ := bfacts (Below.blk hbw hblk)
      obtain ⟨wo, rfl⟩ : ∃ x, x = wr := ⟨_, rfl⟩
      clear hm hrr hrg heach hrange ha hs1 hb1 sc sf sl
      go_wp2_with fail
      go_loopw [3, 35] (fun n2 i2 W => ∃ (q : Nat) (b : Int), q ≤ s.queue.length ∧ i2 = .int .i64 q ∧ n2 = .int .i64 b ∧ b = mn a ((s.queue.map (·.first)).take q) ∧ Below w.heap.size w W) (fun _ i2 _ => s.queue.length - (intOf i2).toNat)
      case atStart => exact ⟨0, a, Nat.zero_le _, rfl, rfl, rfl, hbw⟩
      case round =>
        obtain ⟨q, b, hq, rfl, rfl, hbq, hbW⟩ := hrel
        by_cases hlt : q < s.queue.length
        · have hqr : q < qr.length := by have := HQ.out; omega
          obtain ⟨qb, rfl, _, hqbl⟩ : ∃ qb, qa = some ⟨qb, 0, none⟩ ∧ K qb = (i, 3, 0) ∧ qb < w.heap.size := by
            rcases hq3 with ⟨h0, _⟩ | hq3
            · rw [h0] at hqr; simp at hqr
            · exact hq3
          obtain ⟨rt, hrow, xa, xn, xc, rfl, crows, hcs, hcr⟩ := hqu.2 q (by omega)
          have c0 : wr.cell? ⟨qb, q * 3, none⟩ = some (.int .i64 (nth s.queue dDone q).first) := (Same.of_below hbW).cell (P := fun _ => True) trivial (by have := hslat.cell hqr (j := 0) (by rw [hrow]; rfl); simpa using this)
          have c1 : wr.cell? ⟨qb, q * 3 + 1, none⟩ = some (.int .i64 (nth s.queue dDone q).told.lsn) := (Same.of_below hbW).cell (P := fun _ => True) trivial (by have := hslat.cell hqr (j := 1) (by rw [hrow]; rfl); simpa using this)
          have c2 : wr.cell? ⟨qb, q * 3 + 2, none⟩ = some (.slice xa xn xc) := (Same.of_below hbW).cell (P := fun _ => True) trivial (by have := hslat.cell hqr (j := 2) (by rw [hrow]; rfl); simpa using this)
          have htk : (s.queue.map (·.first)).take (q + 1) = (s.queue.map (·.first)).take q ++ [(nth s.queue dDone q).first] := by
            rw [take_succ_nth _ 0 (by simpa using hlt), nth_map (·.first) s.queue dDone 0 hlt]
          have HB : Go.RowKit.Hid (min b (nth s.queue dDone q).first = mn a ((s.queue.map (·.first)).take (q + 1))) := Lib.hid (by rw [htk, mn_snoc, hbq])
          generalize (nth s.queue dDone q).first = df at *
          generalize (nth s.queue dDone q).told.lsn = dl at *
          clear hrow hslat hqu hcs hcr htk hbq uc uf ul
          go_wp2
          all_goals
            go_roundw
            case measure => simp [intOf]; omega
            case rel => exact ⟨q + 1, min b df, by omega, by go_num, by first | go_num | (congr 1; omega) | (simp; omega), HB.out, hbW.alloc hbW.size _⟩
        · have hqq : q = s.queue.length := by omega
          subst hqq
          have hfin : b = nd := by rw [HN.out, hbq, List.take_of_length_le (by simp)]
          subst hfin
          clear hbq uc uf ul
          go_wp2
          go_ret
          exact ⟨rfl, hbW⟩
    · rw [List.getElem?_map] at hget
      obtain ⟨g, hg, hge⟩ := Option.map_eq_some_iff.1 hget
      have hgF : g.2 = F := congrArg Prod.snd hge
      obtain ⟨hc, hFl⟩ := heach g (hsub g (List.mem_of_getElem? hg))
      rw [hgF] at hc hFl
      have hbw' : Below w.heap.size w w' := hbw.trans ⟨hgrow.os, hgrow.tape, hgrow.output, hgrow.size, fun b hb => hgrow.block b (Nat.lt_of_lt_of_le hb hbw.size) (by simp; omega)⟩
      have hc' : w'.cell? ⟨F, 0, none⟩ = some (.int .i64 g.1.first) := (Same.of_below hbw').cell (P := fun _ => True) trivial hc
      have hse := mn_erase (fun g => g.1.first) Lg j g a hg
      rw [ha] at hse
      have hrg3 : Ranging w' M w.heap.size (G.map keyF) ((Lg.eraseIdx j).map keyF) := by rw [Go.ChangeMaps.map_eraseIdx]; exact hrg2
      have hm2 := hrg3.left_eq
      have hjl : j < Lg.length := by simpa using hj
      have hel := List.length_eraseIdx_of_lt hjl
      have hsub' : ∀ g ∈ Lg.eraseIdx j, g ∈ G := fun g hg => hsub g ((List.eraseIdx_sublist _ _).subset hg)
      have HA := Lib.hid hse.symm
      generalize g.1.first = gf at *
      have HM := Lib.hid hm
      have HM2 := Lib.hid hm2
      have HE := Lib.hid hel
      clear hm hm2 hel hrr hrg heach hrange ha hget hge hse hrg2
      go_wp2
      all_goals
        go_roundw
        case measure => rw [HM.out, HM2.out]; simp; have := HE.out; omega
        case rel => exact ⟨Lg.eraseIdx j, min a gf, by first | go_num | (congr 1; omega) | (simp; omega), HA.out, hsub', hrg3, hbw'⟩
end
end Go.Proofs.Ytplafccjgbeojaa
