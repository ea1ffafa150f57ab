/- slot.Slot.Queued -/
import Derived.Test.YtplafccjgbeojaaFeed1
open Go Go.RowKit
namespace Go.Proofs.Ytplafccjgbeojaa
open Pm

theorem elem_changes : Elem Try.prog 43 48 5 96 (.agg #[.int .i64 0, .string .empty, .slice none 0 0, .slice none 0 0, .slice none 0 0]) := .mk' Try.underlying43 (by kernel_rfl) rfl (by decide)
theorem elem_txns : Elem Try.prog 27 45 2 32 (.agg #[.int .i64 0, .slice none 0 0]) := .mk' Try.underlying27 (by kernel_rfl) rfl (by decide)

def queued (s : Slot) (n : Int) : List Txn := (s.queue.take n.toNat).map (·.told)

theorem queued_nil (n : Int) (w : World) : Calls Try.prog 11 #[.pointer none, .int .i64 n] w fun e w' => e = .returned (.slice none 0 0) ∧ w' = w := by
  go_enter Try.func11, Try.ntmps11
  go_wp2
  go_ret
  exact ⟨rfl, rfl⟩

set_option maxRecDepth 100000 in
set_option maxHeartbeats 1600000 in
theorem queued_calls (Kc : Nat → Tag) (i S : Nat) (s : Slot) (m : Nat) (n : Int) (w : World) (h : Rep w Kc i S s) (hfit : Fits s m) :
    Calls Try.prog 11 #[.pointer (some ⟨S, 0, none⟩), .int .i64 n] w fun e w' => ∃ a k c, e = .returned (.slice a k c) ∧ TxnsAt w' (Fresh w) (.slice a k c) (queued s n) ∧ Below w.heap.size w w' := by
  obtain ⟨tv, M, qv, tr, qr, G, h⟩ := h
  obtain ⟨qa, qc, rfl, hq1, hq2, hq3⟩ := h.qrow.open
  have hql := h.queue.1
  rw [hql] at h hq1
  have HQ := Lib.hid hql
  have hqf := hfit.queue
  have hle := hfit.le
  obtain ⟨k, hk, hkn⟩ : ∃ k : Nat, k = min n.toNat s.queue.length ∧ (n ≤ 0 ∧ k = 0 ∨ 0 < n ∧ n ≤ s.queue.length ∧ n = k ∨ s.queue.length < n ∧ k = s.queue.length) := ⟨_, rfl, by omega⟩
  have hkl : k ≤ s.queue.length := by omega
  clear hql
  obtain ⟨sc, sf, sl⟩ := bfacts h.blk
  have hbl := h.blk
  go_enter Try.func11, Try.ntmps11
  go_wp2_with fail
  refine wp_region_plan (fun W => W.heap[S]? = w.heap[S]?) [] [(0, 0), (1, 0), (2, 0), (3, 1), (4, 0), (5, 0), (6, 0), (7, 0), (8, 1), (9, 0), (10, 0), (11, 0), (12, 0), (13, 0), (14, 0)] (by kernel_rfl) (by kernel_rfl) (fun _ _ d _ _ h => by first | exact absurd h.1 (fun h => by cases h) | (cases d <;> exact h)) ?_
  have hS : w.drew.heap[S]? = w.heap[S]? := rfl
  repeat (first | (refine plan_soft rfl rfl rfl ?_; intro K hK; go_big_quiet_op; go_big_quiet_on) | (refine plan_load hS rfl rfl rfl rfl (fun w' hw' => loadVar_one (by kernel_rfl) (((bfacts (Eq.trans hw' hbl)).1 _).trans rfl)) ?_; (try simp only [Act.put, List.setIfInBounds_toArray, List.set_cons_zero, List.set_cons_succ])))
  have hmm : (if (0 : Int) < (if (s.queue.length : Int) < n then (s.queue.length : Int) else n) then (if (s.queue.length : Int) < n then (s.queue.length : Int) else n) else 0) = (k : Int) := by
    repeat' split
    all_goals omega
  have hmx : max (k : Int) 0 = k := by omega
  simp only [hmm, hmx, Int.toNat_natCast, List.getElem_toArray, List.getElem_cons_succ, List.getElem_cons_zero]
  clear hmm hmx hkn
  generalize (if (s.queue.length : Int) < n then (s.queue.length : Int) else n) = mn
  show Exit.then _ _ _ _ _
  go_wp2_with fail
  have htl : (queued s n).length = k := by unfold queued; rw [List.length_map, List.length_take]; omega
  have hnth : ∀ j, j < k → nth (queued s n) dTxn j = (nth s.queue dDone j).told := fun j hj => by
    unfold queued
    rw [nth_map (·.told) (s.queue.take n.toNat) dDone dTxn (by rw [List.length_take]; omega), nth_eq (by rw [List.length_take]; omega), nth_eq (by omega)]
    simp
  have htk : ∀ j, j < k → (queued s n).take (j + 1) = (queued s n).take j ++ [(nth s.queue dDone j).told] := fun j hj => by rw [take_succ_nth _ dTxn (by omega), hnth j hj]
  have hfin : (queued s n).take k = queued s n := by rw [← htl]; exact List.take_length
  have HF := Lib.hid hfin
  have hslat := h.qrow.slat
  have hqu := h.queue
  have hokq := hfit.okq
  have hk9 : k ≤ 1000000 := by omega
  clear hfin hnth htl hbl hS sc sf sl h hfit hk
  go_loopw [5, 27] (fun out i wr => ∃ j : Nat, j ≤ k ∧ i = .int .i64 j ∧ Coll w 45 2 TxnRow dTxn ((queued s n).take j) j out wr) (fun _ i _ => k - (intOf i).toNat)
  case atStart => exact ⟨0, Nat.zero_le _, rfl, (Coll.start w _ _ _ _).kept framed_txn (Below.refl _ _).drew⟩
  case round =>
    obtain ⟨wo, rfl⟩ : ∃ x, x = wr := ⟨_, rfl⟩
    obtain ⟨j, hj, rfl, hcoll⟩ := hrel
    have hbel := hcoll.below
    by_cases hlt : j < k
    · have hjl : j < qr.length := by have := HQ.out; omega
      obtain ⟨qb, rfl, _, hqbl⟩ : ∃ qb, qa = some ⟨qb, 0, none⟩ ∧ Kc qb = (i, 3, 0) ∧ qb < w.heap.size := by
        rcases hq3 with ⟨h0, _⟩ | hq3
        · rw [h0] at hjl; simp at hjl
        · exact hq3
      obtain ⟨rt, hrow, xa, xn, xc, rfl, crows, hcs, hcr⟩ := hqu.2 j (by omega)
      have hok := hokq (nth s.queue dDone j) (nth_mem (by omega))
      have htk1 := Lib.hid (htk j hlt)
      have c0 : wo.cell? ⟨qb, j * 3, none⟩ = some (.int .i64 (nth s.queue dDone j).first) := (Same.of_below hbel).cell (P := fun _ => True) trivial (by have := hslat.cell hjl (j := 0) (by rw [hrow]; rfl); simpa using this)
      have c1 : wo.cell? ⟨qb, j * 3 + 1, none⟩ = some (.int .i64 (nth s.queue dDone j).told.lsn) := (Same.of_below hbel).cell (P := fun _ => True) trivial (by have := hslat.cell hjl (j := 1) (by rw [hrow]; rfl); simpa using this)
      have c2 : wo.cell? ⟨qb, j * 3 + 2, none⟩ = some (.slice xa xn xc) := (Same.of_below hbel).cell (P := fun _ => True) trivial (by have := hslat.cell hjl (j := 2) (by rw [hrow]; rfl); simpa using this)
      generalize nth s.queue dDone j = d at *
      clear hrow htk hslat hqu hokq
      obtain ⟨oa, oc, rfl⟩ := hcoll.open
      obtain ⟨xa', xc', he, hx1, hx2, hx3⟩ := hcs.open
      simp only [Value.slice.injEq] at he
      obtain ⟨rfl, rfl, rfl⟩ := he
      have hcl := hcr.1
      have hctk : ∀ q, q < crows.length → d.told.chs.take (q + 1) = d.told.chs.take q ++ [nth d.told.chs dChange q] := fun q hq => take_succ_nth _ dChange (by omega)
      have hcfin : d.told.chs.take crows.length = d.told.chs := by rw [hcl]; exact List.take_length
      have HCF := Lib.hid hcfin
      have HCL := Lib.hid hcl
      have hcn : crows.length ≤ 1000000 := by have := hok.1; omega
      have hok2 := hok.2
      have hcfr : ∀ W, Below w.heap.size w W → ∀ q, q < crows.length → ChangeRow W (Imm Kc) (nth crows [] q) (nth d.told.chs dChange q) := fun W hW q hq => (hcr.2 q (by omega)).frame (Same.of_below hW)
      have hccell : ∀ q, q < crows.length → ∀ u v, (nth crows [] q)[u]? = some v → ∀ b off, xa = some ⟨b, off, none⟩ → w.cell? ⟨b, off + q * 5 + u, none⟩ = some v := fun q hq u v hu b off e => by
        subst e; exact hcs.cell hq hu
      clear hcfin hcl hok hcs hcr
      go_wp2_with fail
      have hW2 : Below w.heap.size w ((wo.alloc (.cells #[.int .i64 d.first, .int .i64 d.told.lsn, .slice xa crows.length xc] 72 (0, 0))).alloc (.cells #[.int .i64 d.told.lsn, .slice none 0 0] 45 (0, 0))) := (hbel.alloc hbel.size _).alloc (by have := hbel.size; simp; omega) _
      have hwr := hbel.size
      go_loopw [39] (fun i2 W => ∃ q a2 c2, q ≤ crows.length ∧ i2 = .int .i64 (q : Nat) ∧ W.heap[wo.heap.size + 1]? = some (.cells #[.int .i64 d.told.lsn, .slice a2 q c2] 45 (0, 0)) ∧
        CollX (wo.heap.size + 1) ((wo.alloc (.cells #[.int .i64 d.first, .int .i64 d.told.lsn, .slice xa crows.length xc] 72 (0, 0))).alloc (.cells #[.int .i64 d.told.lsn, .slice none 0 0] 45 (0, 0))) 48 5 ChangeRow dChange (d.told.chs.take q) q (.slice a2 q c2) W) (fun i2 _ => crows.length - (intOf i2).toNat)
      case atStart => exact ⟨0, none, 0, Nat.zero_le _, rfl, (two_new wo _ _).2, CollX.start _ _ _ _ _ _⟩
      case round =>
        obtain ⟨q, a2, c2', hq, rfl, hB8, hcx⟩ := hrel
        have hgx := hcx.grown
        have hgs := hgx.size
        simp only [World.size_alloc] at hgs
        have hWw : Below w.heap.size w wr := hW2.trans ⟨hgx.os, hgx.tape, hgx.output, hgx.size, fun b hb => hgx.block b (by simp; omega) (by simp; omega)⟩
        obtain ⟨b8, f8, l8⟩ := bfacts hB8
        by_cases hq' : q < crows.length
        · obtain ⟨cb, coff, rfl, _, hcbl⟩ : ∃ cb coff, xa = some ⟨cb, coff, none⟩ ∧ Imm Kc cb ∧ cb < w.heap.size := by
            rcases hx3 with ⟨h0, _⟩ | hx3
            · rw [h0] at hq'; simp at hq'
            · exact hx3
          have hcrW := hcfr (wr.alloc (.cells #[] 0)) ((hWw.alloc hWw.size _)) q hq'
          obtain ⟨na, nn, nc, pa, pn, pc, ra, rn, rc, hrow, _⟩ := hcfr w (Below.refl _ _) q hq'
          have hcell := fun u v hu => (Same.of_below hWw).cell (P := fun _ => True) trivial (hccell q hq' u v hu cb coff rfl)
          have e0 := hcell 0 _ (by rw [hrow]; rfl)
          have e1 := hcell 1 _ (by rw [hrow]; rfl)
          have e2 := hcell 2 _ (by rw [hrow]; rfl)
          have e3 := hcell 3 _ (by rw [hrow]; rfl)
          have e4 := hcell 4 _ (by rw [hrow]; rfl)
          simp only [Nat.add_zero] at e0
          have hcrA : ∀ W, Below w.heap.size w W → ChangeRow W (Imm Kc) [.int .i64 (nth d.told.chs dChange q).kind, .string (nth d.told.chs dChange q).table, .slice na nn nc, .slice pa pn pc, .slice ra rn rc] (nth d.told.chs dChange q) := fun W hW => by
            have := hcfr W hW q hq'
            rwa [hrow] at this
          have hctk1 := Lib.hid (hctk q hq')
          have hokc := hok2 (nth d.told.chs dChange q) (nth_mem (by have := HCL.out; omega))
          have hbase : wo.heap.size + 1 < ((wo.alloc (.cells #[.int .i64 d.first, .int .i64 d.told.lsn, .slice (some ⟨cb, coff, none⟩) crows.length xc] 72 (0, 0))).alloc (.cells #[.int .i64 d.told.lsn, .slice none 0 0] 45 (0, 0))).heap.size := by simp
          have hltr : ∀ b, Value.ownBlock (.slice a2 q c2') = some b → b < wr.heap.size := fun b e => (hcx.owns.choose_spec.1.lt b e).2
          generalize nth d.told.chs dChange q = ch at *
          clear hcrW hrow hctk hok2 hccell hcfr hcell c0 c1 c2
          go_wp2_with fail
          have hb8l := lt_of_block hB8
          refine wp_region_plan (fun W => W.heap[wo.heap.size + 1]? = some (.cells #[.int .i64 d.told.lsn, .slice a2 q c2'] 45 (0, 0)) ∧ W.heap[wr.heap.size]? = some (.cells #[.int .i64 ch.kind, .string ch.table, .slice na nn nc, .slice pa pn pc, .slice ra rn rc] 48 (0, 0))) [7] [(0, 0), (1, 1), (2, 1), (3, 2), (4, 2), (5, 2), (6, 0), (7, 2)] (by kernel_rfl) (by kernel_rfl) (fun _ _ d _ _ h => by first | exact absurd h.1 (fun h => by cases h) | (cases d <;> exact h)) ?_
          have hS : (wr.alloc (.cells #[.int .i64 ch.kind, .string ch.table, .slice na nn nc, .slice pa pn pc, .slice ra rn rc] 48 (0, 0))).drew.heap[wo.heap.size + 1]? = some (.cells #[.int .i64 d.told.lsn, .slice a2 q c2'] 45 (0, 0)) ∧ (wr.alloc (.cells #[.int .i64 ch.kind, .string ch.table, .slice na nn nc, .slice pa pn pc, .slice ra rn rc] 48 (0, 0))).drew.heap[wr.heap.size]? = some (.cells #[.int .i64 ch.kind, .string ch.table, .slice na nn nc, .slice pa pn pc, .slice ra rn rc] 48 (0, 0)) := ⟨(Below.heap_alloc wr (.cells #[.int .i64 ch.kind, .string ch.table, .slice na nn nc, .slice pa pn pc, .slice ra rn rc] 48 (0, 0)) _ hb8l).trans hB8, heap_alloc_new wr (.cells #[.int .i64 ch.kind, .string ch.table, .slice na nn nc, .slice pa pn pc, .slice ra rn rc] 48 (0, 0))⟩
          repeat (first | (refine plan_soft rfl rfl rfl ?_; intro K hK; go_big_quiet_op; go_big_quiet_on) | (refine plan_load hS rfl rfl rfl rfl (fun w' hw' => run_loadVar_row _ _ _ _ _ _ _ hw'.2 Try.underlying48 rfl (by kernel_rfl)) ?_; (try simp only [Act.put, List.setIfInBounds_toArray, List.set_cons_zero, List.set_cons_succ])) | (refine plan_load hS rfl rfl rfl rfl (fun w' hw' => loadVar_one (by kernel_rfl) (((bfacts hw'.1).1 _).trans rfl)) ?_; (try simp only [Act.put, List.setIfInBounds_toArray, List.set_cons_zero, List.set_cons_succ])))
          have hbA : Below wr.heap.size wr ((wr.alloc (.cells #[.int .i64 ch.kind, .string ch.table, .slice na nn nc, .slice pa pn pc, .slice ra rn rc] 48 (0, 0))).drew) := ((Below.refl _ _).alloc (Nat.le_refl _) _).drew
          refine plan_do rfl rfl ?_; intro K hK
          go_wp2_with fail
          refine (own_calls [.int .i64 ch.kind, .string ch.table, .slice na nn nc, .slice pa pn pc, .slice ra rn rc] ch (Imm Kc) _ (hcrA _ (Below.step hWw (Nat.le_refl _) hbA)) hokc).mono ?_
          rintro e w1 ⟨r1, rfl, ⟨sa, sn, sc, ta, tn, tc, ua, un, uc, rfl, hs1, hs2, hs3⟩, hb1⟩
          have hb1' : Below wr.heap.size wr w1 := Below.step hbA (by simp) hb1
          have hS' : w1.heap[wo.heap.size + 1]? = some (.cells #[.int .i64 d.told.lsn, .slice a2 q c2'] 45 (0, 0)) ∧ w1.heap[wr.heap.size]? = some (.cells #[.int .i64 ch.kind, .string ch.table, .slice na nn nc, .slice pa pn pc, .slice ra rn rc] 48 (0, 0)) := ⟨(hb1'.block _ hb8l).trans hB8, Below.blk hb1 hS.2⟩
          refine hK _ _ ⟨fun _ _ => hS', ?_⟩
          have hsz1 := hb1.size
          simp only [World.size_drew, World.size_alloc] at hsz1
          have hc2 := (hcx.kept framed_change hb1').kept framed_change ((Below.refl _ w1).alloc (Nat.le_refl _) (.cells #[.int .i64 ch.kind, .string ch.table, .slice sa sn sc, .slice ta tn tc, .slice ua un uc] 48 (0, 0)))
          have hch : ChangeRow (w1.alloc (.cells #[.int .i64 ch.kind, .string ch.table, .slice sa sn sc, .slice ta tn tc, .slice ua un uc] 48 (0, 0))) (fun b => ((wo.alloc (.cells #[.int .i64 d.first, .int .i64 d.told.lsn, .slice (some ⟨cb, coff, none⟩) crows.length xc] 72 (0, 0))).alloc (.cells #[.int .i64 d.told.lsn, .slice none 0 0] 45 (0, 0))).heap.size ≤ b ∧ Value.ownBlock (.slice a2 q c2') ≠ some b) [.int .i64 ch.kind, .string ch.table, .slice sa sn sc, .slice ta tn tc, .slice ua un uc] ch := by
            have hm : ∀ b, Fresh ((wr.alloc (.cells #[.int .i64 ch.kind, .string ch.table, .slice na nn nc, .slice pa pn pc, .slice ra rn rc] 48 (0, 0))).drew) b → b < w1.heap.size → ((wo.alloc (.cells #[.int .i64 d.first, .int .i64 d.told.lsn, .slice (some ⟨cb, coff, none⟩) crows.length xc] 72 (0, 0))).alloc (.cells #[.int .i64 d.told.lsn, .slice none 0 0] 45 (0, 0))).heap.size ≤ b ∧ Value.ownBlock (.slice a2 q c2') ≠ some b := fun b hb _ => by
              simp [Fresh] at hb
              refine ⟨by simp; omega, fun e => by have := hltr b e; omega⟩
            exact ⟨_, _, _, _, _, _, _, _, _, rfl, (hs1.mono hm).frame ((Same.refl _ _).alloc _), (hs2.mono hm).frame ((Same.refl _ _).alloc _), (hs3.mono hm).frame ((Same.refl _ _).alloc _)⟩
          clear hK K hS hcx hs1 hs2 hs3 hcrA
          (try simp only [Act.put, List.setIfInBounds_toArray, List.set_cons_zero, List.set_cons_succ])
          refine plan_do rfl rfl ?_; intro K hK
          go_wp2_with fail
          have hS2 : (w1.alloc (.cells #[.int .i64 ch.kind, .string ch.table, .slice sa sn sc, .slice ta tn tc, .slice ua un uc] 48 (0, 0))).heap[wo.heap.size + 1]? = some (.cells #[.int .i64 d.told.lsn, .slice a2 q c2'] 45 (0, 0)) ∧ (w1.alloc (.cells #[.int .i64 ch.kind, .string ch.table, .slice sa sn sc, .slice ta tn tc, .slice ua un uc] 48 (0, 0))).heap[wr.heap.size]? = some (.cells #[.int .i64 ch.kind, .string ch.table, .slice na nn nc, .slice pa pn pc, .slice ra rn rc] 48 (0, 0)) := ⟨(Below.heap_alloc w1 _ _ (lt_of_block hS'.1)).trans hS'.1, (Below.heap_alloc w1 _ _ (lt_of_block hS'.2)).trans hS'.2⟩
          refine ⟨fun _ _ => hS2, ?_⟩
          clear hS'
          obtain ⟨rs, ho1, hk1, hf1, hr1⟩ := hc2.owns
          have hg1 := hc2.grown
          have HK := Lib.hid hk1
          clear hk1
          have hx1 := slat_new (w := w1) (e := 48) (cs := #[.int .i64 ch.kind, .string ch.table, .slice sa sn sc, .slice ta tn tc, .slice ua un uc]) (k := 5) (m := 1) [[.int .i64 ch.kind, .string ch.table, .slice sa sn sc, .slice ta tn tc, .slice ua un uc]] rfl (by simp) rfl (by simp)
          (try simp only [Act.put, List.setIfInBounds_toArray, List.set_cons_zero, List.set_cons_succ])
          refine plan_do rfl rfl ?_; intro K hK
          refine oper_app1 _ _ _ rfl elem_changes (.slice a2 q c2') rfl ho1 (.slice (some ⟨w1.heap.size, 0, none⟩) 1 1) rfl [.int .i64 ch.kind, .string ch.table, .slice sa sn sc, .slice ta tn tc, .slice ua un uc] hx1 (by simp [Value.oneCell']) (by omega) (by omega) ?_
          intro va vc w2 hown2 hg2 hl2
          have hne8 : Value.ownBlock (.slice a2 q c2') ≠ some (wo.heap.size + 1) := fun e => by have := hf1 _ e; simp at this; omega
          have hS3 : w2.heap[wo.heap.size + 1]? = some (.cells #[.int .i64 d.told.lsn, .slice a2 q c2'] 45 (0, 0)) := (hg2.block _ (lt_of_block hS2.1) (fun e => hne8 e.symm)).trans hS2.1
          have hne9 : Value.ownBlock (.slice a2 q c2') ≠ some wr.heap.size := fun e => by have := hltr _ e; omega
          refine hK _ _ ⟨fun _ _ => ⟨hS3, (hg2.block _ (lt_of_block hS2.2) (fun e => hne9 e.symm)).trans hS2.2⟩, ?_⟩
          clear hK K hS2
          obtain ⟨g8, h8, i8⟩ := bfacts hS3
          (try simp only [Act.put, List.setIfInBounds_toArray, List.set_cons_zero, List.set_cons_succ])
          repeat (first | (refine plan_soft rfl rfl rfl ?_; intro K hK; go_big_quiet_op; go_big_quiet_on))
          (refine plan_do rfl rfl ?_; intro K hK; go_wp2_with fail; refine ⟨fun h => absurd h (by decide), ?_⟩)
          (try simp only [Act.put, List.setIfInBounds_toArray, List.set_cons_zero, List.set_cons_succ])
          show Exit.inBlock _ _ _ _ _
          go_wp2
          go_roundw
          case measure => simp [intOf]; omega
          case rel =>
            refine ⟨q + 1, va, vc, by omega, by go_num, (blk_set hS3 1 _).trans rfl, ?_⟩
            rw [hctk1.out]
            exact (CollX.snoc framed_change HK.out hf1 hr1 hg1 hch rfl hown2 hg2 hl2).set framed_change hbase 1 _
        · have hqq : q = crows.length := by omega
          subst hqq
          rw [HCF.out] at hcx
          have hbo : Below wo.heap.size wo wr := ((((Below.refl _ wo).alloc (Nat.le_refl _) (.cells #[.int .i64 d.first, .int .i64 d.told.lsn, .slice xa crows.length xc] 72 (0, 0))).alloc (by simp) (.cells #[.int .i64 d.told.lsn, .slice none 0 0] 45 (0, 0)))).trans ⟨hgx.os, hgx.tape, hgx.output, hgx.size, fun b hb => hgx.block b (by simp; omega) (by simp; omega)⟩
          obtain ⟨crs, hd1, hd2⟩ := hcx.done framed_change
          have hlto : ∀ b, Value.ownBlock (.slice oa j oc) = some b → b < wo.heap.size := fun b e => (hcoll.owns.choose_spec.1.lt b e).2
          have hc2 := (hcoll.kept framed_txn hbo).kept framed_txn ((Below.refl _ wr).alloc (Nat.le_refl _) (.cells #[.int .i64 d.told.lsn, .slice a2 crows.length c2'] 45 (0, 0)))
          have hm : ∀ b, Fresh ((wo.alloc (.cells #[.int .i64 d.first, .int .i64 d.told.lsn, .slice xa crows.length xc] 72 (0, 0))).alloc (.cells #[.int .i64 d.told.lsn, .slice none 0 0] 45 (0, 0))) b → b < wr.heap.size → w.heap.size ≤ b ∧ Value.ownBlock (.slice oa j oc) ≠ some b := fun b hb _ => by
            simp [Fresh] at hb
            exact ⟨by omega, fun e => by have := hlto b e; omega⟩
          have hrow9 : TxnRow (wr.alloc (.cells #[.int .i64 d.told.lsn, .slice a2 crows.length c2'] 45 (0, 0))) (fun b => w.heap.size ≤ b ∧ Value.ownBlock (.slice oa j oc) ≠ some b) [.int .i64 d.told.lsn, .slice a2 crows.length c2'] d.told :=
            ⟨_, _, _, rfl, crs, (hd1.mono hm).frame ((Same.refl _ _).alloc _), hd2.imp fun _ _ h => (h.mono hm).frame ((Same.refl _ _).alloc _)⟩
          obtain ⟨rs, ho1, hk1, hf1, hr1⟩ := hc2.owns
          have hbb := hc2.below
          have HK := Lib.hid hk1
          clear hk1 hcoll hc2 hd1 hd2 hcx hcfr hccell hok2 c0 c1 c2 hctk
          go_wp2_with (at_builtin; go_must (refine wpList_app (rows' := [[.int .i64 d.told.lsn, .slice a2 crows.length c2']]) rfl _ _ _ rfl elem_txns rfl ho1 rfl (slat_new [[.int .i64 d.told.lsn, .slice a2 crows.length c2']] rfl (by simp) rfl (by simp)) (by simp [Value.oneCell']) (by show j + 1 ≤ 9223372036854775807; omega) (by show (j + 1) * 32 ≤ 140737488355328; omega) ?_; intro v2 w2 hown2 hg2 _ hl2))
          go_roundw
          case measure => simp [intOf]; omega
          case rel =>
            refine ⟨j + 1, by omega, by go_num, ?_⟩
            rw [htk1.out]
            exact Coll.snoc framed_txn HK.out hf1 hr1 hbb hrow9 rfl hown2 hg2 hl2
    · have hkk : j = k := by omega
      subst hkk
      rw [HF.out] at hcoll
      obtain ⟨oa, oc, rfl⟩ := hcoll.open
      go_wp2
      go_ret
      exact ⟨_, _, _, rfl, hcoll.done framed_txn, hbel⟩
end Go.Proofs.Ytplafccjgbeojaa
