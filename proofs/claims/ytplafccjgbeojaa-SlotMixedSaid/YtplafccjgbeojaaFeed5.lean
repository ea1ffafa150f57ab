/- slot.Slot.Feed on whatever record but a catalog; what bounds a slot stays -/
import Derived.Test.YtplafccjgbeojaaDel
open Go Go.RowKit
namespace Go.Proofs.Ytplafccjgbeojaa
open Pm

set_option maxRecDepth 100000 in
set_option maxHeartbeats 1600000 in
theorem feed_other (Kc : Nat → Tag) (i S : Nat) (s : Slot) (lsn : Int) (r : List Value) (x : Rec) (w : World) (h : Rep w Kc i S s) (hi : i ≠ 0) (hr : RecAt w (Imm Kc) r x) (hl : s.last < lsn)
    (hk : x.kind ≠ 2 ∧ x.kind ≠ 3 ∧ x.kind ≠ 4 ∧ x.kind ≠ 5 ∧ x.kind ≠ 6 ∧ x.kind ≠ 10) :
    Calls Try.prog 12 #[.pointer (some ⟨S, 0, none⟩), .int .i64 lsn, .agg r.toArray] w fun e w' => e = .returned (.tuple #[]) ∧ ∃ K', Ext Kc K' w.heap.size ∧ Step Kc i w w' ∧ Rep w' K' i S { s with last := lsn } := by
  obtain ⟨oa, on, oc, wa, wn, wc, ed, xa, xn, xc, rfl, hro, hrw, hrx⟩ := hr
  obtain ⟨tv, M, qv, tr, qr, G, h⟩ := h
  have hsl := lt_of_block h.blk
  have hSne : S ≠ w.heap.size := by omega
  have hBo : Below w.heap.size w (w.alloc (.cells #[.int .i64 x.kind, .int .i64 x.xid, .int .i64 x.table, .slice oa on oc, .slice wa wn wc, ed, .slice xa xn xc, .string x.note] 35 (0, 0))) := (Below.refl _ _).alloc (Nat.le_refl _) _
  obtain ⟨K0, hK0, hBc⟩ : ∃ K0 : Nat → Tag, Ext Kc K0 w.heap.size ∧ K0 w.heap.size = (0, 0, 0) := ⟨fun b => if b < w.heap.size then Kc b else (0, 0, 0), fun b hb => by simp [hb], by simp⟩
  have hSt : Step Kc i w ((w.setCell ⟨S, 2, none⟩ (.int .i64 lsn)).alloc (.cells #[.int .i64 x.kind, .int .i64 x.xid, .int .i64 x.table, .slice oa on oc, .slice wa wn wc, ed, .slice xa xn xc, .string x.note] 35 (0, 0))) := ((Step.refl Kc i w).set (fun _ => by rw [h.kS]) _).alloc _
  have hblk := Below.blk hBo h.blk
  have h1 : Rep ((w.setCell ⟨S, 2, none⟩ (.int .i64 lsn)).alloc (.cells #[.int .i64 x.kind, .int .i64 x.xid, .int .i64 x.table, .slice oa on oc, .slice wa wn wc, ed, .slice xa xn xc, .string x.note] 35 (0, 0))) K0 i S { s with last := lsn } :=
    ⟨tv, M, qv, tr, qr, G, h.head (s' := { s with last := lsn }) hSt.size hK0 hi (fun b hbl hbk => (Below.heap_alloc _ _ _ (by simpa using hbl)).trans (Below.heap_setCell _ _ _ _ (fun e => hbk (by rw [← h.kS]; exact congrArg Kc e)))) ((Below.heap_alloc _ _ _ (by simpa using hsl)).trans ((blk_set h.blk 2 _).trans rfl)) rfl rfl rfl⟩
  have hbox : ((w.setCell ⟨S, 2, none⟩ (.int .i64 lsn)).alloc (.cells #[.int .i64 x.kind, .int .i64 x.xid, .int .i64 x.table, .slice oa on oc, .slice wa wn wc, ed, .slice xa xn xc, .string x.note] 35 (0, 0))).heap[w.heap.size]? = some (.cells #[.int .i64 x.kind, .int .i64 x.xid, .int .i64 x.table, .slice oa on oc, .slice wa wn wc, ed, .slice xa xn xc, .string x.note] 35 (0, 0)) := by have := heap_alloc_new (w.setCell ⟨S, 2, none⟩ (.int .i64 lsn)) (.cells #[.int .i64 x.kind, .int .i64 x.xid, .int .i64 x.table, .slice oa on oc, .slice wa wn wc, ed, .slice xa xn xc, .string x.note] 35 (0, 0)); simpa using this
  clear h hro hrw hrx
  obtain ⟨kd, xid, tab, old, new, xids, note⟩ := x
  simp only at *
  obtain ⟨k2, k3, k4, k5, k6, k10⟩ := hk
  have g2 : (kd == 2) = false := by simpa using k2
  have g3 : (kd == 3) = false := by simpa using k3
  have g4 : (kd == 4) = false := by simpa using k4
  have g5 : (kd == 5) = false := by simpa using k5
  have g6 : (kd == 6) = false := by simpa using k6
  have g10 : (kd == 10) = false := by simpa using k10
  clear k2 k3 k4 k5 k6 k10
  obtain ⟨sc, sf, sl⟩ := bfacts hblk
  obtain ⟨bc, bf, bl⟩ := bfacts hbox
  go_enter Try.func12, Try.ntmps12
  go_wp2
  first | refine bodyPost_ret (v := .tuple #[]) (by simp [results, Try.results12, go_sem]) rfl ?_ | refine bodyPost_end (v := .tuple #[]) (by simp [results, Try.results12, go_sem]) rfl ?_
  exact ⟨rfl, K0, hK0, hSt, h1⟩

/-- a record that is no catalog -/
structure Plain (x : Rec) : Prop where
  kind : x.kind ≠ 10
  old : x.old.length ≤ 1000000
  new : x.new.length ≤ 1000000
  xids : x.xids.length ≤ 1000

theorem feed_calls (rd : ByteArray → Option (List Tab)) (Kc : Nat → Tag) (i S : Nat) (s : Slot) (n : Nat) (lsn : Int) (r : List Value) (x : Rec) (w : World) (h : Rep w Kc i S s) (hi : i ≠ 0) (hr : RecAt w (Imm Kc) r x) (hfit : Fits s n) (hinv : Pm.Inv s) (hx : Plain x) :
    Calls Try.prog 12 #[.pointer (some ⟨S, 0, none⟩), .int .i64 lsn, .agg r.toArray] w fun e w' => e = .returned (.tuple #[]) ∧ ∃ K', Ext Kc K' w.heap.size ∧ Step Kc i w w' ∧ Rep w' K' i S (feed rd s lsn x) := by
  by_cases hl : lsn ≤ s.last
  · refine (feed_old S s lsn r x (Imm Kc) w h hr hl).mono ?_
    rintro e w' ⟨rfl, hb⟩
    refine ⟨rfl, fun b => if b < w.heap.size then Kc b else (0, 0, 0), fun b hb => by simp [hb], Step.of_below hb, ?_⟩
    unfold feed
    rw [if_pos hl]
    exact h.below hb (fun b hb => by simp [hb])
  have hl' : s.last < lsn := by omega
  by_cases h1 : x.kind = 2 ∨ x.kind = 3 ∨ x.kind = 4
  · rw [feed_ins_eq hl' h1]
    exact feed_ins Kc i S s n lsn r x w h hi hr hfit hl' h1 ⟨hx.old, hx.new⟩
  by_cases h5 : x.kind = 5
  · rw [feed_commit_eq hl' h5]
    exact feed_commit Kc i S s n lsn r x w h hi hr hfit hinv hl' h5 hx.xids
  by_cases h6 : x.kind = 6
  · rw [feed_abort_eq hl' h6]
    exact feed_abort Kc i S s n lsn r x w h hi hr hfit hl' h6 hx.xids
  · have h10 := hx.kind
    have e : feed rd s lsn x = { s with last := lsn } := by
      unfold feed; rw [if_neg hl, if_neg h1, if_neg h5, if_neg h6, if_neg h10]
    rw [e]
    exact feed_other Kc i S s lsn r x w h hi hr hl' ⟨fun e => h1 (.inl e), fun e => h1 (.inr (.inl e)), fun e => h1 (.inr (.inr e)), h5, h6, h10⟩

def OkCh (c : Change) : Prop := c.names.length ≤ 1000000 ∧ c.old.length ≤ 1000000 ∧ c.new.length ≤ 1000000

theorem ok_change {c : List Tab} (h : SmallCat c) {x : Rec} (ho : x.old.length ≤ 1000000) (hn : x.new.length ≤ 1000000) : OkCh (change c x) := by
  rw [change_eq]
  exact ⟨by simpa using small_tabOf h x.table, ho, hn⟩

theorem sum_turns (l : List Follow) : (l.map (·.turns.length)).sum = (l.flatMap (·.turns)).length := (flat_len l).symm

theorem Fits.up {s : Slot} {n : Nat} (h : Fits s n) (hn : n + 1 ≤ 999999) : Fits s (n + 1) :=
  ⟨hn, by have := h.turns; omega, by have := h.fols; omega, by have := h.queue; omega, by have := h.cats; omega, h.some, h.small, h.okt, fun d hd => ⟨by have := (h.okq d hd).1; omega, (h.okq d hd).2⟩⟩

theorem Fits.feed {rd : ByteArray → Option (List Tab)} {s : Slot} {n : Nat} {lsn : Int} {x : Rec} (h : Fits s n) (hn : n + 1 ≤ 999999) (ho : x.old.length ≤ 1000000) (hw : x.new.length ≤ 1000000) (hrd : x.kind = 10 → ∀ c, rd x.note = Option.some c → SmallCat c) : Fits (feed rd s lsn x) (n + 1) := by
  have hu := h.up hn
  unfold Pm.feed
  by_cases hl : lsn ≤ s.last
  · rw [if_pos hl]; exact hu
  rw [if_neg hl]
  by_cases h1 : x.kind = 2 ∨ x.kind = 3 ∨ x.kind = 4
  · rw [if_pos h1]
    refine ⟨hn, ?_, ?_, hu.queue, hu.cats, h.some, h.small, ?_, hu.okq⟩
    · show ((addTurn s.follows x.xid _).map _).sum ≤ _
      rw [sum_turns, (addTurn_turns _ _ _).length_eq, List.length_append, ← sum_turns]
      have := h.turns
      simp; omega
    · show (addTurn s.follows x.xid _).length ≤ _
      have h2 := congrArg List.length (addTurn_xids x.xid ⟨lsn, change s.now x⟩ s.follows)
      rw [List.length_map] at h2
      rw [h2]
      have := h.fols
      split <;> simp <;> omega
    · intro f hf t ht
      rcases addTurn_mem hf with hf | ⟨_, ⟨h2, _⟩ | ⟨g, hg, _, rfl⟩⟩
      · exact h.okt f hf t ht
      · rw [h2] at ht; simp at ht; subst ht; exact ok_change h.now ho hw
      · rcases List.mem_append.1 ht with ht | ht
        · exact h.okt g hg t ht
        · simp at ht; subst ht; exact ok_change h.now ho hw
  rw [if_neg h1]
  have hleft : ∀ f ∈ left s.follows x, f ∈ s.follows := fun f hf => (List.mem_filter.1 hf).1
  have hlt : ((left s.follows x).map (·.turns.length)).sum ≤ n + 1 := by
    rw [sum_turns]
    have := (filter_flat_sublist (fun f => !Pm.one x f.xid) s.follows).length_le
    have h2 := h.turns
    rw [sum_turns] at h2
    unfold left; omega
  have hlf : (left s.follows x).length ≤ n + 1 := by
    have : (left s.follows x).length ≤ s.follows.length := List.length_filter_le _ _
    have := h.fols
    omega
  by_cases h5 : x.kind = 5
  · rw [if_pos h5]
    refine ⟨hn, hlt, hlf, ?_, hu.cats, h.some, h.small, fun f hf => h.okt f (hleft f hf), ?_⟩
    · show (s.queue ++ told s lsn x).length ≤ _
      have : (told s lsn x).length ≤ 1 := by unfold told; split <;> simp
      have := h.queue
      simp; omega
    · intro d hd
      rcases List.mem_append.1 hd with hd | hd
      · exact hu.okq d hd
      · unfold told at hd
        split at hd
        · simp at hd
        · simp at hd
          subst hd
          have hm : ∀ t ∈ merged s.follows x, ∃ f ∈ s.follows, t ∈ f.turns := fun t ht => by
            have := (sortTurns_perm _).mem_iff.1 ht
            obtain ⟨f, hf, ht⟩ := List.mem_flatMap.1 this
            exact ⟨f, (List.mem_filter.1 hf).1, ht⟩
          refine ⟨?_, ?_⟩
          · simp only [List.length_map]
            have h2 : (merged s.follows x).length ≤ (s.follows.flatMap (·.turns)).length := by
              unfold merged
              rw [(sortTurns_perm _).length_eq]
              exact (filter_flat_sublist _ _).length_le
            have h3 := h.turns
            rw [sum_turns] at h3
            omega
          · intro c hc
            obtain ⟨t, ht, rfl⟩ := List.mem_map.1 hc
            obtain ⟨f, hf, ht⟩ := hm t ht
            exact h.okt f hf t ht
  rw [if_neg h5]
  by_cases h6 : x.kind = 6
  · rw [if_pos h6]
    exact ⟨hn, hlt, hlf, hu.queue, hu.cats, h.some, h.small, fun f hf => h.okt f (hleft f hf), hu.okq⟩
  rw [if_neg h6]
  by_cases h10 : x.kind = 10
  · rw [if_pos h10]
    refine ⟨hn, hu.turns, hu.fols, hu.queue, ?_, by simp [h.some], ?_, h.okt, hu.okq⟩
    · show (s.cats ++ newCat rd lsn x).length ≤ _
      have : (newCat rd lsn x).length ≤ 1 := by unfold newCat; split <;> simp
      have := h.cats
      simp; omega
    · intro p hp
      rcases List.mem_append.1 hp with hp | hp
      · exact h.small p hp
      · unfold newCat at hp
        split at hp
        · rename_i c hc
          simp at hp
          subst hp
          exact hrd h10 c hc
        · simp at hp
  · rw [if_neg h10]
    exact ⟨hn, hu.turns, hu.fols, hu.queue, hu.cats, h.some, h.small, h.okt, hu.okq⟩

theorem fits_new {name : ByteArray} {a l : Int} {c : List Tab} (hc : SmallCat c) : Fits (newSlot name a l c) 0 :=
  ⟨by decide, by simp [newSlot], by simp [newSlot], by simp [newSlot], by simp [newSlot], by simp [newSlot], by simp [newSlot]; exact hc, by simp [newSlot], by simp [newSlot]⟩
theorem small_nil : SmallCat [] := ⟨by simp, fun i hi => by simp at hi⟩
end Go.Proofs.Ytplafccjgbeojaa
