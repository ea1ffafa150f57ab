/- vintnerlaw16.sanity -/
import Derived.Test.YtplafccjgbeojaaLive
open Go Go.RowKit
namespace Go.Proofs.Ytplafccjgbeojaa
open Pm

/-- a transaction in a list of transactions -/
theorem TxnsAt.at {w : World} {P : Nat → Prop} {v : Value} {l : List Txn} (h : TxnsAt w P v l) : ∃ a cap, v = .slice a l.length cap ∧ l.length ≤ cap ∧ cap ≤ 9223372036854775807 ∧ (l = [] ∧ a = none ∨ ∃ b off, a = some ⟨b, off, none⟩ ∧ b < w.heap.size ∧
    ∀ i, i < l.length → w.cell? ⟨b, off + i * 2, none⟩ = some (.int .i64 (nth l dTxn i).lsn) ∧ ∃ a' c', w.cell? ⟨b, off + i * 2 + 1, none⟩ = some (.slice a' (nth l dTxn i).chs.length c') ∧ ChangesAt w P (.slice a' (nth l dTxn i).chs.length c') (nth l dTxn i).chs) := by
  obtain ⟨rows, hs, hr⟩ := h
  obtain ⟨a, cap, rfl, h1, h2, ⟨rfl, rfl, rfl⟩ | ⟨b, off, rfl, hP, hb⟩⟩ := hs.open
  · have : l = [] := List.eq_nil_of_length_eq_zero hr.1.symm
    subst this
    exact ⟨none, 0, rfl, Nat.le_refl _, h2, .inl ⟨rfl, rfl⟩⟩
  · rw [hr.1] at h1
    refine ⟨_, cap, by rw [hr.1], h1, h2, .inr ⟨b, off, rfl, hb, fun i hi => ?_⟩⟩
    obtain ⟨a', n', c', hrow, hc⟩ := hr.2 i hi
    have hir : i < rows.length := by rw [hr.1]; exact hi
    have e : n' = (nth l dTxn i).chs.length := by
      obtain ⟨rs, h3, h4⟩ := hc
      obtain ⟨_, _, he, _⟩ := h3.open
      simp at he
      rw [he.2.1, h4.1]
    subst e
    refine ⟨?_, a', c', hs.cell hir (j := 1) (by rw [hrow]; rfl), hc⟩
    have := hs.cell hir (j := 0) (by rw [hrow]; rfl)
    simpa using this

theorem TxnsAt.shape {w : World} {P : Nat → Prop} {a : Option Addr} {k c : Nat} {l : List Txn} (h : TxnsAt w P (.slice a k c) l) : k = l.length ∧ k ≤ c ∧ c ≤ 9223372036854775807 := by
  obtain ⟨_, _, he, h1, h2, _⟩ := h.at
  simp at he
  omega

/-- a change in a list of changes -/
theorem ChangesAt.at {w : World} {P : Nat → Prop} {v : Value} {l : List Change} (h : ChangesAt w P v l) : ∃ a cap, v = .slice a l.length cap ∧ l.length ≤ cap ∧ cap ≤ 9223372036854775807 ∧ (l = [] ∧ a = none ∨ ∃ b off, a = some ⟨b, off, none⟩ ∧ b < w.heap.size ∧
    ∀ i, i < l.length → ∃ a1 c1 a2 c2 a3 c3, w.cell? ⟨b, off + i * 5, none⟩ = some (.int .i64 (nth l dChange i).kind) ∧ w.cell? ⟨b, off + i * 5 + 1, none⟩ = some (.string (nth l dChange i).table) ∧
      w.cell? ⟨b, off + i * 5 + 2, none⟩ = some (.slice a1 (nth l dChange i).names.length c1) ∧ w.cell? ⟨b, off + i * 5 + 3, none⟩ = some (.slice a2 (nth l dChange i).old.length c2) ∧ w.cell? ⟨b, off + i * 5 + 4, none⟩ = some (.slice a3 (nth l dChange i).new.length c3) ∧
      StrsAt w P (.slice a1 (nth l dChange i).names.length c1) (nth l dChange i).names ∧ RowAt w P (.slice a2 (nth l dChange i).old.length c2) (nth l dChange i).old ∧ RowAt w P (.slice a3 (nth l dChange i).new.length c3) (nth l dChange i).new) := by
  obtain ⟨rows, hs, hr⟩ := h
  obtain ⟨a, cap, rfl, h1, h2, ⟨rfl, rfl, rfl⟩ | ⟨b, off, rfl, hP, hb⟩⟩ := hs.open
  · have : l = [] := List.eq_nil_of_length_eq_zero hr.1.symm
    subst this
    exact ⟨none, 0, rfl, Nat.le_refl _, h2, .inl ⟨rfl, rfl⟩⟩
  · rw [hr.1] at h1
    refine ⟨_, cap, by rw [hr.1], h1, h2, .inr ⟨b, off, rfl, hb, fun i hi => ?_⟩⟩
    obtain ⟨a1, n1, c1, a2, n2, c2, a3, n3, c3, hrow, hn, ho, hw⟩ := hr.2 i hi
    have hir : i < rows.length := by rw [hr.1]; exact hi
    have e1 : n1 = (nth l dChange i).names.length := by
      obtain ⟨_, _, he, _⟩ := SlAt.open hn; simp at he; exact he.2.1
    have e2 : n2 = (nth l dChange i).old.length := by
      obtain ⟨_, _, he, _⟩ := SlAt.open ho; simp at he; exact he.2.1
    have e3 : n3 = (nth l dChange i).new.length := by
      obtain ⟨_, _, he, _⟩ := SlAt.open hw; simp at he; exact he.2.1
    subst e1 e2 e3
    refine ⟨a1, c1, a2, c2, a3, c3, ?_, hs.cell hir (j := 1) (by rw [hrow]; rfl), hs.cell hir (j := 2) (by rw [hrow]; rfl), hs.cell hir (j := 3) (by rw [hrow]; rfl), hs.cell hir (j := 4) (by rw [hrow]; rfl), hn, ho, hw⟩
    have := hs.cell hir (j := 0) (by rw [hrow]; rfl)
    simpa using this

def noCat : ByteArray → Option (List Tab) := fun _ => none
def chA : Change := ⟨2, .empty, [], [], []⟩
def sane4 : Slot := ⟨⟨#[115]⟩, 0, 4, [(0, [])], [], [⟨2, ⟨3, [chA]⟩⟩, ⟨1, ⟨4, [chA]⟩⟩]⟩
def sane5 : Slot := ⟨⟨#[115]⟩, 3, 4, [(0, [])], [], [⟨1, ⟨4, [chA]⟩⟩]⟩
def sane6 : Slot := ⟨⟨#[115]⟩, 4, 4, [(0, [])], [], []⟩

theorem sane4_eq : feed noCat (feed noCat (feed noCat (feed noCat (newSlot ⟨#[115]⟩ (max 0 0) (max 0 0) []) 1 ⟨2, 5, 0, [], [], [], ⟨#[]⟩⟩) 2 ⟨2, 6, 0, [], [], [], ⟨#[]⟩⟩) 3 ⟨5, 6, 0, [], [], [], ⟨#[]⟩⟩) 4 ⟨5, 5, 0, [], [], [], ⟨#[]⟩⟩ = sane4 := by kernel_rfl
theorem need4 : need sane4 = 1 := by kernel_rfl
theorem need5 : need sane5 = 1 := by kernel_rfl
theorem need6 : need sane6 = 5 := by kernel_rfl
theorem sane5_eq : ackd sane4 3 = sane5 := by kernel_rfl
theorem sane6_eq : ackd sane5 4 = sane6 := by kernel_rfl

set_option maxRecDepth 100000 in
set_option maxHeartbeats 1600000 in
theorem sanity_calls (w : World) : Calls Try.prog 8 #[] w fun e w' => e = .returned (.bool true) ∧ Below w.heap.size w w' := by
  go_enter Try.func8, Try.ntmps8
  go_wp2_with fail
  refine (new_go (Held.start w) 1 (by decide) _ _).mono ?_
  rintro e w1 ⟨S, K1, rfl, hh, hl, _, _⟩
  go_wp2_with fail
  refine (feed_go noCat hh hl (by decide) (by decide) 1 _ _ (rec_bare _ _ 2 5 0) (plain_bare (by decide))).mono ?_
  rintro e w2 ⟨rfl, K2, hh, hl, _, _⟩
  go_wp2_with fail
  refine (feed_go noCat hh hl (by decide) (by decide) 2 _ _ (rec_bare _ _ 2 6 0) (plain_bare (by decide))).mono ?_
  rintro e w3 ⟨rfl, K3, hh, hl, _, _⟩
  go_wp2_with fail
  refine (feed_go noCat hh hl (by decide) (by decide) 3 _ _ (rec_bare _ _ 5 6 0) (plain_bare (by decide))).mono ?_
  rintro e w4 ⟨rfl, K4, hh, hl, _, _⟩
  go_wp2_with fail
  refine (feed_go noCat hh hl (by decide) (by decide) 4 _ _ (rec_bare _ _ 5 5 0) (plain_bare (by decide))).mono ?_
  rintro e w5 ⟨rfl, K5, hh, hl, _, _⟩
  rw [sane4_eq] at hl
  go_wp2_with fail
  refine (queued_go hh hl 9).mono ?_
  rintro e w6 ⟨a, k, c, K6, rfl, ht, hh, hl, _, _⟩
  have ht1 : TxnsAt w6 (Imm K6) (.slice a k c) [⟨3, [chA]⟩, ⟨4, [chA]⟩] := ht
  obtain ⟨a', cap, he, hc1, hc2, ⟨h0, _⟩ | ⟨b, off, rfl, hb, hat⟩⟩ := ht1.at
  · simp at h0
  simp only [Value.slice.injEq] at he
  obtain ⟨rfl, rfl, rfl⟩ := he
  obtain ⟨q0, x0, y0, q1, r0⟩ := hat 0 (by decide)
  obtain ⟨q2, x1, y1, q3, r1⟩ := hat 1 (by decide)
  have p0 : w6.cell? ⟨b, off, none⟩ = some (.int .i64 3) := q0
  have p1 : w6.cell? ⟨b, off + 1, none⟩ = some (.slice x0 1 y0) := q1
  have p2 : w6.cell? ⟨b, off + 2, none⟩ = some (.int .i64 4) := q2
  have p3 : w6.cell? ⟨b, off + 3, none⟩ = some (.slice x1 1 y1) := q3
  clear q0 q1 q2 q3 hat
  change 2 ≤ c at hc1
  go_wp2_with fail
  refine (need_go hh hl (by decide)).mono ?_
  rintro e w7 ⟨rfl, hh, hl, hb7⟩
  rw [need4]
  have ht2 := ht1.then hb7 (fun _ _ => rfl)
  clear p0 p1 p2 p3 ht1 ht r0 r1
  go_wp2_with fail
  refine (ack_go hh hl (by decide) 3 (by decide)).mono ?_
  rintro e w8 ⟨rfl, K8, hh, hl, hs8, hk8⟩
  rw [sane5_eq] at hl
  have ht3 := ht2.step hs8 hk8 (by decide)
  clear ht2 hs8 hk8 hb7
  go_wp2_with fail
  refine (queued_go hh hl 9).mono ?_
  rintro e w9 ⟨a9, k9, c9, K9, rfl, ht9, hh, hl, hb9, hk9⟩
  have ht4 := ht3.then hb9 hk9
  obtain ⟨rfl, _, _⟩ := (show TxnsAt w9 (Imm K9) (.slice a9 k9 c9) [⟨4, [chA]⟩] from ht9).shape
  clear ht3 hb9 hk9 ht9
  go_wp2_with fail
  refine (need_go hh hl (by decide)).mono ?_
  rintro e w10 ⟨rfl, hh, hl, hb10⟩
  rw [need5]
  have ht5 := ht4.then hb10 (fun _ _ => rfl)
  clear ht4 hb10
  go_wp2_with fail
  refine (ack_go hh hl (by decide) 4 (by decide)).mono ?_
  rintro e w11 ⟨rfl, K11, hh, hl, hs11, hk11⟩
  rw [sane6_eq] at hl
  have ht6 := ht5.step hs11 hk11 (by decide)
  clear ht5 hs11 hk11
  go_wp2_with fail
  refine (queued_go hh hl 9).mono ?_
  rintro e w12 ⟨a12, k12, c12, K12, rfl, ht12, hh, hl, hb12, hk12⟩
  have ht7 := ht6.then hb12 hk12
  obtain ⟨rfl, _, _⟩ := (show TxnsAt w12 (Imm K12) (.slice a12 k12 c12) [] from ht12).shape
  clear ht6 hb12 hk12 ht12
  go_wp2_with fail
  refine (need_go hh hl (by decide)).mono ?_
  rintro e w13 ⟨rfl, hh, hl, hb13⟩
  rw [need6]
  have ht8 := ht7.then hb13 (fun _ _ => rfl)
  clear ht7 hb13
  obtain ⟨a', cap, he, _, _, ⟨h0, _⟩ | ⟨b', off', he', hb, hat⟩⟩ := ht8.at
  · simp at h0
  simp only [Value.slice.injEq] at he
  obtain ⟨he1, _, rfl⟩ := he
  rw [← he1] at he'
  simp only [Option.some.injEq, Addr.mk.injEq, and_true] at he'
  obtain ⟨rfl, rfl⟩ := he'
  obtain ⟨g1, x0, y0, q1, r0⟩ := hat 0 (by decide)
  clear g1
  obtain ⟨x0', y0', he, hy1, hy2, ⟨h0, _⟩ | ⟨b2, off2, rfl, hb2, hat2⟩⟩ := (show ChangesAt w13 (Imm K12) (.slice x0 1 y0) [chA] from r0).at
  · simp at h0
  simp only [Value.slice.injEq] at he
  obtain ⟨rfl, he2, rfl⟩ := he
  obtain ⟨_, _, _, _, _, _, k0, g0⟩ := hat2 0 (by decide)
  have p1 : w13.cell? ⟨b, off + 1, none⟩ = some (.slice (some ⟨b2, off2, none⟩) 1 y0) := q1
  have p2 : w13.cell? ⟨b2, off2, none⟩ = some (.int .i64 2) := k0
  change 1 ≤ y0 at hy1
  clear q1 k0 r0 hat hat2 ht8 he1 he2 g0
  go_wp2
  go_ret
  exact ⟨rfl, hh.below⟩
end Go.Proofs.Ytplafccjgbeojaa
