/- vintnerref16.Same, texts, vintnerref02.Same: two lists that are equal -/
import Derived.Test.YtplafccjgbeojaaSan
import Derived.Laws.StructEq
open Go Go.RowKit
namespace Go.Proofs.Ytplafccjgbeojaa
open Pm

theorem SlAt.two {w : World} {P : Nat → Prop} {k : Nat} {v : Value} {rows : List (List Value)} (h : SlAt w P k v rows) : ∃ a cap, v = .slice a rows.length cap ∧ rows.length ≤ cap ∧ cap ≤ 9223372036854775807 ∧ ∀ i, i < rows.length → ∃ b off, a = some ⟨b, off, none⟩ ∧ b < w.heap.size ∧ ∀ j x, (nth rows [] i)[j]? = some x → w.cell? ⟨b, off + i * k + j, none⟩ = some x := by
  obtain ⟨a, cap, rfl, h1, h2, ⟨rfl, rfl, rfl⟩ | ⟨b, off, rfl, _, hb⟩⟩ := h.open
  · exact ⟨_, _, rfl, h1, h2, fun i hi => by simp at hi⟩
  · exact ⟨_, _, rfl, h1, h2, fun i hi => ⟨b, off, rfl, hb, fun j x hx => h.cell hi hx⟩⟩

set_option maxRecDepth 100000 in
set_option maxHeartbeats 800000 in
theorem texts_eq (v1 v2 : Value) (l : List ByteArray) (P Q : Nat → Prop) (w : World) (h1 : StrsAt w P v1 l) (h2 : StrsAt w Q v2 l) (hl : l.length ≤ 1000000) :
    Calls Try.prog 33 #[v1, v2] w fun e w' => e = .returned (.bool true) ∧ Below w.heap.size w w' := by
  obtain ⟨a1, c1, rfl, hc1, hd1, hx1⟩ := SlAt.two h1
  obtain ⟨a2, c2, rfl, hc2, hd2, hx2⟩ := SlAt.two h2
  have hm : (l.map cStr).length = l.length := by simp
  simp only [hm] at *
  have hcell : ∀ i, i < l.length → nth (l.map cStr) [] i = [.string (nth l .empty i)] := fun i hi => by rw [nth_map cStr l .empty [] hi]; rfl
  clear h1 h2 hm
  go_enter Try.func33, Try.ntmps33
  go_wp2_with fail
  go_loopw [5] (fun i wr => ∃ k : Nat, k ≤ l.length ∧ i = .int .i64 k ∧ Below w.heap.size w wr) (fun i _ => l.length - (intOf i).toNat)
  case atStart => exact ⟨0, Nat.zero_le _, rfl, Below.refl _ _⟩
  case round =>
    obtain ⟨k, hk, rfl, hb⟩ := hrel
    by_cases hlt : k < l.length
    · obtain ⟨b1, o1, rfl, hb1, y1⟩ := hx1 k hlt
      obtain ⟨b2, o2, rfl, hb2, y2⟩ := hx2 k hlt
      have e1 : w.cell? ⟨b1, o1 + k, none⟩ = some (.string (nth l .empty k)) := by have := y1 0 _ (by rw [hcell k hlt]; rfl); simpa using this
      have e2 : w.cell? ⟨b2, o2 + k, none⟩ = some (.string (nth l .empty k)) := by have := y2 0 _ (by rw [hcell k hlt]; rfl); simpa using this
      generalize nth l .empty k = s at *
      clear hx1 hx2 y1 y2 hcell
      go_wp2_with fail
      refine wp_region_plan (fun W => Below w.heap.size w W) [] [(0, 0), (1, 0), (2, 0), (3, 1), (4, 0), (5, 0), (6, 0), (7, 1), (8, 0)] (by kernel_rfl) (by kernel_rfl) (fun _ _ d _ _ h => by first | exact absurd h.1 (fun h => by cases h) | (cases d <;> exact h)) ?_
      have hS : Below w.heap.size w wr.drew := hb.drew
      repeat (first | (refine plan_soft rfl rfl rfl ?_; intro K hK; go_big_quiet_op; go_big_quiet_on) | (refine plan_load hS rfl rfl rfl rfl (fun w' hw' => loadVar_one (by kernel_rfl) ((Same.of_below hw').cell (P := fun _ => True) trivial e1)) ?_; (try simp only [Act.put, List.setIfInBounds_toArray, List.set_cons_zero, List.set_cons_succ])) | (refine plan_load hS rfl rfl rfl rfl (fun w' hw' => loadVar_one (by kernel_rfl) ((Same.of_below hw').cell (P := fun _ => True) trivial e2)) ?_; (try simp only [Act.put, List.setIfInBounds_toArray, List.set_cons_zero, List.set_cons_succ])))
      show Exit.then _ _ _ _ _
      clear e1 e2
      go_wp2
      go_roundw
      case measure => simp [intOf]; omega
      case rel => exact ⟨k + 1, by omega, by go_num, hS⟩
    · have hkk : k = l.length := by omega
      subst hkk
      clear hx1 hx2 hcell
      go_wp2
      go_ret
      exact ⟨rfl, hb⟩

set_option maxRecDepth 100000 in
set_option maxHeartbeats 800000 in
theorem rows_eq (v1 v2 : Value) (l : List Val) (P Q : Nat → Prop) (w : World) (h1 : RowAt w P v1 l) (h2 : RowAt w Q v2 l) (hl : l.length ≤ 1000000) :
    Calls Try.prog 34 #[v1, v2] w fun e w' => e = .returned (.bool true) ∧ Below w.heap.size w w' := by
  obtain ⟨a1, c1, rfl, hc1, hd1, hx1⟩ := SlAt.two h1
  obtain ⟨a2, c2, rfl, hc2, hd2, hx2⟩ := SlAt.two h2
  have hm : (l.map cVal).length = l.length := by simp
  simp only [hm] at *
  have hcell : ∀ i, i < l.length → nth (l.map cVal) [] i = [.int .i64 (nth l dVal i).kind, .int .i64 (nth l dVal i).n, .string (nth l dVal i).s] := fun i hi => by rw [nth_map cVal l dVal [] hi]; rfl
  clear h1 h2 hm
  go_enter Try.func34, Try.ntmps34
  go_wp2_with fail
  go_loopw [5] (fun i wr => ∃ k : Nat, k ≤ l.length ∧ i = .int .i64 k ∧ Below w.heap.size w wr) (fun i _ => l.length - (intOf i).toNat)
  case atStart => exact ⟨0, Nat.zero_le _, rfl, Below.refl _ _⟩
  case round =>
    obtain ⟨k, hk, rfl, hb⟩ := hrel
    by_cases hlt : k < l.length
    · obtain ⟨b1, o1, rfl, hb1, y1⟩ := hx1 k hlt
      obtain ⟨b2, o2, rfl, hb2, y2⟩ := hx2 k hlt
      have e10 := y1 0 _ (by rw [hcell k hlt]; rfl)
      have e11 := y1 1 _ (by rw [hcell k hlt]; rfl)
      have e12 := y1 2 _ (by rw [hcell k hlt]; rfl)
      have e20 := y2 0 _ (by rw [hcell k hlt]; rfl)
      have e21 := y2 1 _ (by rw [hcell k hlt]; rfl)
      have e22 := y2 2 _ (by rw [hcell k hlt]; rfl)
      simp only [Nat.add_zero] at e10 e20
      generalize (nth l dVal k).s = s at *
      generalize (nth l dVal k).n = n at *
      generalize (nth l dVal k).kind = kd at *
      clear hx1 hx2 y1 y2 hcell
      go_wp2_with fail
      refine wp_region_plan (fun W => Below w.heap.size w W) [] [(0, 0), (1, 0), (2, 0), (3, 1), (4, 0), (5, 0), (6, 0), (7, 1), (8, 0)] (by kernel_rfl) (by kernel_rfl) (fun _ _ d _ _ h => by first | exact absurd h.1 (fun h => by cases h) | (cases d <;> exact h)) ?_
      have hS : Below w.heap.size w wr.drew := hb.drew
      have l1 : ∀ w', Below w.heap.size w w' → (loadVar 30 ⟨b1, o1 + k * 3, none⟩).run Try.prog w' = .ok (.agg #[.int .i64 kd, .int .i64 n, .string s]) w' := fun w' hw' => by
        have f0 := (Same.of_below hw').cell (P := fun _ => True) trivial e10
        have f1 := (Same.of_below hw').cell (P := fun _ => True) trivial e11
        have f2 := (Same.of_below hw').cell (P := fun _ => True) trivial e12
        clear e10 e11 e12 e20 e21 e22
        go_simp
      have l2 : ∀ w', Below w.heap.size w w' → (loadVar 30 ⟨b2, o2 + k * 3, none⟩).run Try.prog w' = .ok (.agg #[.int .i64 kd, .int .i64 n, .string s]) w' := fun w' hw' => by
        have f0 := (Same.of_below hw').cell (P := fun _ => True) trivial e20
        have f1 := (Same.of_below hw').cell (P := fun _ => True) trivial e21
        have f2 := (Same.of_below hw').cell (P := fun _ => True) trivial e22
        clear e10 e11 e12 e20 e21 e22
        go_simp
      clear e10 e11 e12 e20 e21 e22
      repeat (first | (refine plan_soft rfl rfl rfl ?_; intro K hK; go_big_quiet_op; go_big_quiet_on) | (refine plan_load hS rfl rfl rfl rfl (fun w' hw' => l1 _ hw') ?_; (try simp only [Act.put, List.setIfInBounds_toArray, List.set_cons_zero, List.set_cons_succ])) | (refine plan_load hS rfl rfl rfl rfl (fun w' hw' => l2 _ hw') ?_; (try simp only [Act.put, List.setIfInBounds_toArray, List.set_cons_zero, List.set_cons_succ])))
      show Exit.then _ _ _ _ _
      clear l1 l2
      go_wp2
      go_roundw
      case measure => simp [intOf]; omega
      case rel => exact ⟨k + 1, by omega, by go_num, hS⟩
    · have hkk : k = l.length := by omega
      subst hkk
      clear hx1 hx2 hcell
      go_wp2
      go_ret
      exact ⟨rfl, hb⟩

def OkTxns (l : List Txn) : Prop := ∀ t ∈ l, t.chs.length ≤ 1000000 ∧ ∀ c ∈ t.chs, OkCh c

/-- what the comparison reads of a list of transactions -/
structure TxR (w : World) (P : Nat → Prop) (a : Option Addr) (n c : Nat) (l : List Txn) : Prop where
  len : n = l.length
  le : n ≤ c
  cap : c ≤ 9223372036854775807
  at' : ∀ i, i < l.length → ∃ b off, a = some ⟨b, off, none⟩ ∧ b < w.heap.size ∧ w.cell? ⟨b, off + i * 2, none⟩ = some (.int .i64 (nth l dTxn i).lsn) ∧ ∃ a' c', w.cell? ⟨b, off + i * 2 + 1, none⟩ = some (.slice a' (nth l dTxn i).chs.length c') ∧ ChangesAt w P (.slice a' (nth l dTxn i).chs.length c') (nth l dTxn i).chs

theorem TxnsAt.r {w : World} {P : Nat → Prop} {v : Value} {l : List Txn} (h : TxnsAt w P v l) : ∃ a n c, v = .slice a n c ∧ TxR w P a n c l := by
  obtain ⟨a, c, rfl, h1, h2, ⟨rfl, rfl⟩ | ⟨b, off, rfl, hb, hat⟩⟩ := h.at
  · exact ⟨_, _, _, rfl, rfl, h1, h2, fun i hi => by simp at hi⟩
  · exact ⟨_, _, _, rfl, rfl, h1, h2, fun i hi => ⟨b, off, rfl, hb, hat i hi⟩⟩

theorem TxR.below {w w' : World} {P : Nat → Prop} {a : Option Addr} {n c : Nat} {l : List Txn} (h : TxR w P a n c l) (hb : Below w.heap.size w w') : TxR w' P a n c l := by
  refine ⟨h.len, h.le, h.cap, fun i hi => ?_⟩
  obtain ⟨b, off, rfl, h1, h2, a', c', h3, h4⟩ := h.at' i hi
  exact ⟨b, off, rfl, Nat.lt_of_lt_of_le h1 hb.size, (Same.of_below hb).cell (P := fun _ => True) trivial h2, a', c', (Same.of_below hb).cell (P := fun _ => True) trivial h3, h4.frame (Same.of_below hb)⟩

/-- what it reads of a list of changes -/
structure ChR (w : World) (P : Nat → Prop) (a : Option Addr) (n c : Nat) (l : List Change) : Prop where
  len : n = l.length
  le : n ≤ c
  cap : c ≤ 9223372036854775807
  at' : ∀ i, i < l.length → ∃ b off, a = some ⟨b, off, none⟩ ∧ b < w.heap.size ∧ ∃ a1 c1 a2 c2 a3 c3, w.cell? ⟨b, off + i * 5, none⟩ = some (.int .i64 (nth l dChange i).kind) ∧ w.cell? ⟨b, off + i * 5 + 1, none⟩ = some (.string (nth l dChange i).table) ∧
      w.cell? ⟨b, off + i * 5 + 2, none⟩ = some (.slice a1 (nth l dChange i).names.length c1) ∧ w.cell? ⟨b, off + i * 5 + 3, none⟩ = some (.slice a2 (nth l dChange i).old.length c2) ∧ w.cell? ⟨b, off + i * 5 + 4, none⟩ = some (.slice a3 (nth l dChange i).new.length c3) ∧
      StrsAt w P (.slice a1 (nth l dChange i).names.length c1) (nth l dChange i).names ∧ RowAt w P (.slice a2 (nth l dChange i).old.length c2) (nth l dChange i).old ∧ RowAt w P (.slice a3 (nth l dChange i).new.length c3) (nth l dChange i).new

theorem ChangesAt.r {w : World} {P : Nat → Prop} {a : Option Addr} {n c : Nat} {l : List Change} (h : ChangesAt w P (.slice a n c) l) : ChR w P a n c l := by
  obtain ⟨a', c', he, h1, h2, h3⟩ := h.at
  simp only [Value.slice.injEq] at he
  obtain ⟨rfl, rfl, rfl⟩ := he
  refine ⟨rfl, h1, h2, fun i hi => ?_⟩
  rcases h3 with ⟨rfl, _⟩ | ⟨b, off, rfl, hb, hat⟩
  · simp at hi
  · exact ⟨b, off, rfl, hb, hat i hi⟩

set_option maxRecDepth 100000 in
set_option maxHeartbeats 1600000 in
theorem same_eq (v1 v2 : Value) (l : List Txn) (P Q : Nat → Prop) (w : World) (h1 : TxnsAt w P v1 l) (h2 : TxnsAt w Q v2 l) (hl : l.length ≤ 1000000) (hok : OkTxns l) :
    Calls Try.prog 13 #[v1, v2] w fun e w' => e = .returned (.bool true) ∧ Below w.heap.size w w' := by
  obtain ⟨a1, n1, c1, rfl, r1⟩ := h1.r
  obtain ⟨a2, n2, c2, rfl, r2⟩ := h2.r
  obtain rfl := r1.len
  obtain rfl := r2.len
  have hc1 := r1.le
  have hc2 := r2.le
  have hd1 := r1.cap
  have hd2 := r2.cap
  clear h1 h2
  go_enter Try.func13, Try.ntmps13
  go_wp2_with fail
  go_loopw [5] (fun i wr => ∃ k : Nat, k ≤ l.length ∧ i = .int .i64 k ∧ Below w.heap.size w wr) (fun i _ => l.length - (intOf i).toNat)
  case atStart => exact ⟨0, Nat.zero_le _, rfl, Below.refl _ _⟩
  case round =>
    obtain ⟨k, hk, rfl, hb⟩ := hrel
    by_cases hlt : k < l.length
    · obtain ⟨b1, o1, rfl, hb1, p1, x1, y1, q1, z1⟩ := r1.at' k hlt
      obtain ⟨b2, o2, rfl, hb2, p2, x2, y2, q2, z2⟩ := r2.at' k hlt
      have hokk := hok _ (nth_mem (d := dTxn) hlt)
      generalize nth l dTxn k = t at *
      have hch := hokk.1
      go_wp2_with fail
      refine wp_region_plan (fun W => Below w.heap.size w W) [] [(0, 0), (1, 0), (2, 0), (3, 0), (4, 1), (5, 0), (6, 0), (7, 0), (8, 0), (9, 1), (10, 0), (11, 0), (12, 0), (13, 0), (14, 0), (15, 0), (16, 1), (17, 0), (18, 0), (19, 0), (20, 0), (21, 0), (22, 1), (23, 0), (24, 0), (25, 0)] (by kernel_rfl) (by kernel_rfl) (fun _ _ d _ _ h => by first | exact absurd h.1 (fun h => by cases h) | (cases d <;> exact h)) ?_
      have hS : Below w.heap.size w wr.drew := hb.drew
      repeat (first | (refine plan_soft rfl rfl rfl ?_; intro K hK; go_big_quiet_op; go_big_quiet_on) | (refine plan_load hS rfl rfl rfl rfl (fun w' hw' => loadVar_one (by kernel_rfl) ((Same.of_below hw').cell (P := fun _ => True) trivial p1)) ?_; (try simp only [Act.put, List.setIfInBounds_toArray, List.set_cons_zero, List.set_cons_succ])) | (refine plan_load hS rfl rfl rfl rfl (fun w' hw' => loadVar_one (by kernel_rfl) ((Same.of_below hw').cell (P := fun _ => True) trivial p2)) ?_; (try simp only [Act.put, List.setIfInBounds_toArray, List.set_cons_zero, List.set_cons_succ])) | (refine plan_load hS rfl rfl rfl rfl (fun w' hw' => loadVar_one (by kernel_rfl) ((Same.of_below hw').cell (P := fun _ => True) trivial q1)) ?_; (try simp only [Act.put, List.setIfInBounds_toArray, List.set_cons_zero, List.set_cons_succ])) | (refine plan_load hS rfl rfl rfl rfl (fun w' hw' => loadVar_one (by kernel_rfl) ((Same.of_below hw').cell (P := fun _ => True) trivial q2)) ?_; (try simp only [Act.put, List.setIfInBounds_toArray, List.set_cons_zero, List.set_cons_succ])))
      show Exit.then _ _ _ _ _
      have g1 := z1.r
      have g2 := z2.r
      clear p1 p2 hb
      go_wp2_with fail
      have HA := Lib.hid r1
      have HB := Lib.hid r2
      go_loopw [6] (fun j w2 => ∃ m : Nat, m ≤ t.chs.length ∧ j = .int .i64 m ∧ Below w.heap.size w w2) (fun j _ => t.chs.length - (intOf j).toNat)
      case atStart => exact ⟨0, Nat.zero_le _, rfl, hS⟩
      case round =>
        obtain ⟨m, hm, rfl, hb⟩ := hrel
        have s1 := (Same.of_below hb).cell (P := fun _ => True) trivial q1
        have s2 := (Same.of_below hb).cell (P := fun _ => True) trivial q2
        by_cases hmt : m < t.chs.length
        · obtain ⟨d1, f1, rfl, hd1b, xa1, ya1, xb1, yb1, xc1, yc1, k0, k1, k2, k3, k4, hn1, ho1, hw1⟩ := g1.at' m hmt
          obtain ⟨d2, f2, rfl, hd2b, xa2, ya2, xb2, yb2, xc2, yc2, j0, j1, j2, j3, j4, hn2, ho2, hw2⟩ := g2.at' m hmt
          have hcap1 := g1.le
          have hcap2 := g2.le
          have hcp1 := g1.cap
          have hcp2 := g2.cap
          have hokc := hokk.2 _ (nth_mem (d := dChange) hmt)
          have up := fun (b o : Nat) (v : Value) (h : w.cell? ⟨b, o, none⟩ = some v) => (Same.of_below hb).cell (P := fun _ => True) trivial h
          have k0 := up _ _ _ k0
          have k1 := up _ _ _ k1
          have k2 := up _ _ _ k2
          have k3 := up _ _ _ k3
          have k4 := up _ _ _ k4
          have j0 := up _ _ _ j0
          have j1 := up _ _ _ j1
          have j2 := up _ _ _ j2
          have j3 := up _ _ _ j3
          have j4 := up _ _ _ j4
          clear up
          generalize nth t.chs dChange m = ch at *
          have K0 := Lib.hid k0
          have J0 := Lib.hid j0
          have hbs := hb.size
          have l1 : d1 < wr.heap.size := by omega
          have l2 : d2 < wr.heap.size := by omega
          have m1 : b1 < wr.heap.size := by omega
          have m2 : b2 < wr.heap.size := by omega
          have HN1 := Lib.hid hn1
          have HN2 := Lib.hid hn2
          have HO1 := Lib.hid ho1
          have HO2 := Lib.hid ho2
          have HW1 := Lib.hid hw1
          have HW2 := Lib.hid hw2
          clear hn1 hn2 ho1 ho2 hw1 hw2 g1 g2 r1 r2 z1 z2 q1 q2
          clear k0 j0
          obtain ⟨oc1, oc2, oc3⟩ := hokc
          have k0 : wr.cell? ⟨d1, f1 + m * 5, none⟩ = some (.int .i64 ch.kind) := K0.out
          have j0 : wr.cell? ⟨d2, f2 + m * 5, none⟩ = some (.int .i64 ch.kind) := J0.out
          go_wp2_with fail
          have hB2 := (hb.alloc (by omega) (.cells #[.int .i64 ch.kind, .string ch.table, .slice xa1 ch.names.length ya1, .slice xb1 ch.old.length yb1, .slice xc1 ch.new.length yc1] 48 (0, 0))).alloc (by simp; omega) (.cells #[.int .i64 ch.kind, .string ch.table, .slice xa2 ch.names.length ya2, .slice xb2 ch.old.length yb2, .slice xc2 ch.new.length yc2] 48 (0, 0))
          refine (texts_eq _ _ ch.names P Q _ (HN1.out.frame (Same.of_below hB2)) (HN2.out.frame (Same.of_below hB2)) oc1).mono ?_
          rintro e wA ⟨rfl, hbA⟩
          have hBA := Below.step hB2 (Nat.le_refl _) hbA
          obtain ⟨A1, A2, _, hzA⟩ := two_blks hbA
          obtain ⟨ac, af, al⟩ := bfacts A1
          obtain ⟨bc, bf, bl⟩ := bfacts A2
          clear k0 k1 k2 k3 k4 j0 j1 j2 j3 j4 hbA hB2 s1 s2
          go_wp2_with fail
          refine (rows_eq _ _ ch.old P Q _ (HO1.out.frame (Same.of_below hBA)) (HO2.out.frame (Same.of_below hBA)) oc2).mono ?_
          rintro e wB ⟨rfl, hbB⟩
          have hBB := Below.step hBA (Nat.le_refl _) hbB
          have A1' := Below.blk hbB A1
          have A2' := Below.blk hbB A2
          clear ac af al bc bf bl A1 A2
          obtain ⟨ac, af, al⟩ := bfacts A1'
          obtain ⟨bc, bf, bl⟩ := bfacts A2'
          have hzB := Nat.le_trans hzA hbB.size
          clear hbB hBA hzA
          go_wp2_with fail
          refine (rows_eq _ _ ch.new P Q _ (HW1.out.frame (Same.of_below hBB)) (HW2.out.frame (Same.of_below hBB)) oc3).mono ?_
          rintro e wC ⟨rfl, hbC⟩
          have hBC := Below.step hBB (Nat.le_refl _) hbC
          have A1 := Below.blk hbC A1'
          have A2 := Below.blk hbC A2'
          clear ac af al bc bf bl A1' A2'
          obtain ⟨ac, af, al⟩ := bfacts A1
          obtain ⟨bc, bf, bl⟩ := bfacts A2
          clear hbC hBB hzB
          go_wp2
          go_roundw
          case measure => simp [intOf]; omega
          case rel => exact ⟨m + 1, by omega, by go_num, hBC⟩
        · have hmm : m = t.chs.length := by omega
          subst hmm
          clear g1 g2
          go_wp2
          go_roundw
          case measure => simp [intOf]; omega
          case rel => exact ⟨k + 1, by omega, by go_num, hb⟩
    · have hkk : k = l.length := by omega
      subst hkk
      clear r1 r2
      go_wp2
      go_ret
      exact ⟨rfl, hb⟩
end Go.Proofs.Ytplafccjgbeojaa
