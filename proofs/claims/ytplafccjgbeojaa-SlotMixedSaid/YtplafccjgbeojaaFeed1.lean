/- slot.Slot.Feed: what changes nothing, and the records of changes -/
import Derived.Test.YtplafccjgbeojaaAdd
open Go Go.RowKit
namespace Go.Proofs.Ytplafccjgbeojaa
open Pm

set_option maxRecDepth 100000 in
set_option maxHeartbeats 1600000 in
theorem feed_nil (lsn : Int) (v : Value) (w : World) (r : List Value) (hr : r.length = 8) :
    Calls Try.prog 12 #[.pointer none, .int .i64 lsn, .agg r.toArray] w fun e w' => e = .returned (.tuple #[]) ∧ Below w.heap.size w w' := by
  obtain ⟨r0, r1, r2, r3, r4, r5, r6, r7, rfl⟩ : ∃ r0 r1 r2 r3 r4 r5 r6 r7, r = [r0, r1, r2, r3, r4, r5, r6, r7] := by
    match r, hr with
    | [r0, r1, r2, r3, r4, r5, r6, r7], _ => exact ⟨_, _, _, _, _, _, _, _, rfl⟩
  go_enter Try.func12, Try.ntmps12
  go_wp2
  first | refine bodyPost_ret (v := .tuple #[]) (by simp [results, Try.results12, go_sem]) rfl ?_ | refine bodyPost_end (v := .tuple #[]) (by simp [results, Try.results12, go_sem]) rfl ?_
  exact ⟨rfl, by (repeat (first | with_reducible exact Below.refl _ _ | with_reducible assumption | (with_reducible refine Below.setCell ?_ (by first | (simp; done) | (simp; omega)) _) | (with_reducible refine Below.alloc ?_ (by first | (simp; done) | (simp; omega)) _) | with_reducible refine Below.drew ?_))⟩


set_option maxRecDepth 100000 in
set_option maxHeartbeats 1600000 in
theorem feed_old (S : Nat) (s : Slot) (lsn : Int) (r : List Value) (x : Rec) (P : Nat → Prop) (w : World) {K : Nat → Tag} {i : Nat} (h : Rep w K i S s) (hr : RecAt w P r x) (hl : lsn ≤ s.last) :
    Calls Try.prog 12 #[.pointer (some ⟨S, 0, none⟩), .int .i64 lsn, .agg r.toArray] w fun e w' => e = .returned (.tuple #[]) ∧ Below w.heap.size w w' := by
  obtain ⟨tv, M, qv, tr, qr, G, h⟩ := h
  obtain ⟨oa, on, oc, wa, wn, wc, ed, xa, xn, xc, rfl, _, _, _⟩ := hr
  obtain ⟨sc, sf, sl⟩ := bfacts (Below.blk ((Below.refl _ w).alloc (Nat.le_refl _) (.cells #[.int .i64 x.kind, .int .i64 x.xid, .int .i64 x.table, .slice oa on oc, .slice wa wn wc, ed, .slice xa xn xc, .string x.note] 35 (0, 0))) h.blk)
  clear h
  go_enter Try.func12, Try.ntmps12
  go_wp2
  first | refine bodyPost_ret (v := .tuple #[]) (by simp [results, Try.results12, go_sem]) rfl ?_ | refine bodyPost_end (v := .tuple #[]) (by simp [results, Try.results12, go_sem]) rfl ?_
  exact ⟨rfl, by (repeat (first | with_reducible exact Below.refl _ _ | with_reducible assumption | (with_reducible refine Below.setCell ?_ (by first | (simp; done) | (simp; omega)) _) | (with_reducible refine Below.alloc ?_ (by first | (simp; done) | (simp; omega)) _) | with_reducible refine Below.drew ?_))⟩

/-- what is fed must fit -/
structure Fits (s : Slot) (n : Nat) : Prop where
  le : n ≤ 999999
  turns : (s.follows.map (·.turns.length)).sum ≤ n
  fols : s.follows.length ≤ n
  queue : s.queue.length ≤ n
  cats : s.cats.length ≤ n + 1
  some : s.cats ≠ []
  small : ∀ p ∈ s.cats, SmallCat p.2
  okt : ∀ f ∈ s.follows, ∀ t ∈ f.turns, t.ch.names.length ≤ 1000000 ∧ t.ch.old.length ≤ 1000000 ∧ t.ch.new.length ≤ 1000000
  okq : ∀ d ∈ s.queue, d.told.chs.length ≤ n ∧ ∀ c ∈ d.told.chs, c.names.length ≤ 1000000 ∧ c.old.length ≤ 1000000 ∧ c.new.length ≤ 1000000

theorem sum_ge {α : Type} (f : α → Nat) : ∀ (l : List α) {x : α}, x ∈ l → f x ≤ (l.map f).sum
  | [], _, h => by simp at h
  | a :: l, x, h => by
    rcases List.mem_cons.1 h with rfl | h
    · simp
    · have := sum_ge f l h; simp; omega

theorem Fits.each {s : Slot} {n : Nat} (h : Fits s n) : ∀ f ∈ s.follows, f.turns.length ≤ 1000000 := fun f hf => by
  have := sum_ge (fun f : Follow => f.turns.length) s.follows hf
  have := h.turns; have := h.le; omega

theorem Fits.now {s : Slot} {n : Nat} (h : Fits s n) : SmallCat s.now := by
  unfold Slot.now
  rw [List.getLast?_eq_some_getLast h.some]
  exact h.small _ (List.getLast_mem h.some)

theorem small_tabOf {c : List Tab} (h : SmallCat c) (id : Int) : (tabOf c id).cols.length ≤ 1000000 := by
  unfold tabOf tabAt
  by_cases hid : 1 ≤ id ∧ id ≤ c.length
  · simp only [hid, and_self, if_true, Option.getD_some]
    exact (h.2 _ (by omega)).1
  · simp only [hid, if_false, Option.getD_none]
    exact Nat.zero_le _

theorem RecAt.go {w w' : World} {K K' : Nat → Tag} {C : Tag → Prop} {r : List Value} {x : Rec} (h : RecAt w (Imm K) r x) (hs : w.heap.size ≤ w'.heap.size) (hK : Ext K K' w.heap.size) (hC : ∀ b, b < w.heap.size → ¬ C (K b) → w'.heap[b]? = w.heap[b]?) (hI : ¬ C (0, 0, 0)) :
    RecAt w' (Imm K') r x := by
  obtain ⟨a1, n1, c1, a2, n2, c2, ed, a3, n3, c3, h1, h2, h3, h4⟩ := h
  have hm : ∀ b, Imm K b → b < w.heap.size → Imm K b ∧ Imm K' b := fun b hb hl => ⟨hb, imm_ext hK b hb hl⟩
  have hf : Same (fun b => Imm K b ∧ Imm K' b) w w' := (same_imm hs hC hI).mono fun b hb => hb.1
  exact ⟨a1, n1, c1, a2, n2, c2, ed, a3, n3, c3, h1, ((h2.mono hm).frame hf).mono fun b hb _ => hb.2, ((h3.mono hm).frame hf).mono fun b hb _ => hb.2, ((h4.mono hm).frame hf).mono fun b hb _ => hb.2⟩

set_option maxRecDepth 100000 in
set_option maxHeartbeats 1600000 in
theorem feed_ins (Kc : Nat → Tag) (i S : Nat) (s : Slot) (n : Nat) (lsn : Int) (r : List Value) (x : Rec) (w : World) (h : Rep w Kc i S s) (hi : i ≠ 0) (hr : RecAt w (Imm Kc) r x) (hfit : Fits s n) (hl : s.last < lsn)
    (hk : x.kind = 2 ∨ x.kind = 3 ∨ x.kind = 4) (hb : x.old.length ≤ 1000000 ∧ x.new.length ≤ 1000000) :
    Calls Try.prog 12 #[.pointer (some ⟨S, 0, none⟩), .int .i64 lsn, .agg r.toArray] w fun e w' => e = .returned (.tuple #[]) ∧ ∃ K', Ext Kc K' w.heap.size ∧ Step Kc i w w' ∧ Rep w' K' i S { s with last := lsn, follows := addTurn s.follows x.xid ⟨lsn, change s.now x⟩ } := by
  have hr0 := hr
  obtain ⟨oa, on, oc, wa, wn, wc, ed, xa, xn, xc, rfl, hro, hrw, hrx⟩ := hr
  obtain ⟨tv, M, qv, tr, qr, G, h⟩ := h
  have hsl := lt_of_block h.blk
  have hSne : S ≠ w.heap.size := by omega
  have hBo : Below w.heap.size w (w.alloc (.cells #[.int .i64 x.kind, .int .i64 x.xid, .int .i64 x.table, .slice oa on oc, .slice wa wn wc, ed, .slice xa xn xc, .string x.note] 35 (0, 0))) := (Below.refl _ _).alloc (Nat.le_refl _) _
  obtain ⟨K0, hK0, hBc⟩ : ∃ K0 : Nat → Tag, Ext Kc K0 w.heap.size ∧ K0 w.heap.size = (0, 0, 0) := ⟨fun b => if b < w.heap.size then Kc b else (0, 0, 0), fun b hb => by simp [hb], by simp⟩
  have hSt : Step Kc i w ((w.setCell ⟨S, 2, none⟩ (.int .i64 lsn)).alloc (.cells #[.int .i64 x.kind, .int .i64 x.xid, .int .i64 x.table, .slice oa on oc, .slice wa wn wc, ed, .slice xa xn xc, .string x.note] 35 (0, 0))) := ((Step.refl Kc i w).set (fun _ => by rw [h.kS]) _).alloc _
  have hblk := Below.blk hBo h.blk
  have h1 : Rep ((w.setCell ⟨S, 2, none⟩ (.int .i64 lsn)).alloc (.cells #[.int .i64 x.kind, .int .i64 x.xid, .int .i64 x.table, .slice oa on oc, .slice wa wn wc, ed, .slice xa xn xc, .string x.note] 35 (0, 0))) K0 i S { s with last := lsn } :=
    ⟨tv, M, qv, tr, qr, G, h.head (s' := { s with last := lsn }) hSt.size hK0 hi (fun b hbl hbk => (Below.heap_alloc _ _ _ (by simpa using hbl)).trans (Below.heap_setCell _ _ _ _ (fun e => hbk (by rw [← h.kS]; exact congrArg Kc e)))) ((Below.heap_alloc _ _ _ (by simpa using hsl)).trans ((blk_set h.blk 2 _).trans rfl)) rfl rfl rfl⟩
  have hbox : ((w.setCell ⟨S, 2, none⟩ (.int .i64 lsn)).alloc (.cells #[.int .i64 x.kind, .int .i64 x.xid, .int .i64 x.table, .slice oa on oc, .slice wa wn wc, ed, .slice xa xn xc, .string x.note] 35 (0, 0))).heap[w.heap.size]? = some (.cells #[.int .i64 x.kind, .int .i64 x.xid, .int .i64 x.table, .slice oa on oc, .slice wa wn wc, ed, .slice xa xn xc, .string x.note] 35 (0, 0)) := by have := heap_alloc_new (w.setCell ⟨S, 2, none⟩ (.int .i64 lsn)) (.cells #[.int .i64 x.kind, .int .i64 x.xid, .int .i64 x.table, .slice oa on oc, .slice wa wn wc, ed, .slice xa xn xc, .string x.note] 35 (0, 0)); simpa using this
  have hrec := hr0.go (C := fun c => c.1 = i) hSt.size hK0 hSt.block (fun e => hi e.symm)
  have hfit1 : Fits { s with last := lsn } n := ⟨hfit.le, hfit.turns, hfit.fols, hfit.queue, hfit.cats, hfit.some, hfit.small, hfit.okt, hfit.okq⟩
  have hnow : ({ s with last := lsn } : Slot).now = s.now := rfl
  have hsm := hfit.now
  have hst := small_tabOf hsm x.table
  have hcl : s.cats.length ≤ 1000000 := by have := hfit.cats; have := hfit.le; omega
  have heach := hfit.each
  have hcs := hfit.some
  clear h hr0 hro hrw hrx hfit hfit1
  obtain ⟨kd, xid, tab, old, new, xids, note⟩ := x
  simp only at *
  rcases hk with rfl | rfl | rfl
  all_goals
    obtain ⟨sc, sf, sl⟩ := bfacts hblk
    obtain ⟨bc, bf, bl⟩ := bfacts hbox
    go_enter Try.func12, Try.ntmps12
    go_wp2_with fail
    generalize hW1 : (w.setCell ⟨S, 2, none⟩ (.int .i64 lsn)).alloc _ = W1 at *
    refine wp_region_plan (fun W => W.heap[w.heap.size]? = W1.heap[w.heap.size]?) [] [(0, 0), (1, 0), (2, 1), (3, 0), (4, 0), (5, 1), (6, 2), (7, 0), (8, 2)] (by kernel_rfl) (by kernel_rfl) (fun _ _ d _ _ h => by first | exact absurd h.1 (fun h => by cases h) | (cases d <;> exact h)) ?_
    have hS : W1.drew.heap[w.heap.size]? = W1.heap[w.heap.size]? := rfl
    repeat (first | (refine plan_soft rfl rfl rfl ?_; intro K hK; go_big_quiet_op; go_big_quiet_on) | (refine plan_load hS rfl rfl rfl rfl (fun w' hw' => run_loadVar_row _ _ _ _ _ _ _ (Eq.trans hw' hbox) Try.underlying35 rfl (by kernel_rfl)) ?_; (try simp only [Act.put, List.setIfInBounds_toArray, List.set_cons_zero, List.set_cons_succ])) | (refine plan_load hS rfl rfl rfl rfl (fun w' hw' => loadVar_one (by kernel_rfl) (((bfacts (Eq.trans hw' hbox)).1 _).trans rfl)) ?_; (try simp only [Act.put, List.setIfInBounds_toArray, List.set_cons_zero, List.set_cons_succ])))
    have hbd : Below W1.heap.size W1 W1.drew := (Below.refl _ _).drew
    refine plan_do rfl rfl ?_; intro K hK
    go_wp2_with fail
    refine (chg_calls K0 i S { s with last := lsn } _ _ (Imm K0) _ (h1.below hbd (fun _ _ => rfl)) (hrec.go (C := fun _ => False) hbd.size (fun _ _ => rfl) (fun b hb _ => hbd.block b hb) (fun h => h)) hsm hst hcs hb hcl).mono ?_
    rintro e w2 ⟨rc, rfl, ⟨ca, cn, cc, da, dn, dc, ea, en, ec, rfl, hc1, hc2, hc3⟩, hb2⟩
    have hb2' : Below W1.heap.size W1 w2 := Below.step hbd (Nat.le_refl _) hb2
    have hlt1 := lt_of_block hbox
    obtain ⟨K2, hK2, hK2n⟩ : ∃ K2 : Nat → Tag, Ext K0 K2 W1.heap.size ∧ ∀ b, W1.heap.size ≤ b → K2 b = (0, 0, 0) := ⟨fun b => if b < W1.heap.size then K0 b else (0, 0, 0), fun b hb => by simp [hb], fun b hb => if_neg (by omega)⟩
    have h2 := h1.below hb2' hK2
    have hbx2 := hb2'.block _ hlt1
    have hT : TurnRow w2 (Imm K2) _ ⟨lsn, _⟩ := ⟨_, rfl, ca, cn, cc, da, dn, dc, ea, en, ec, rfl, hc1.mono (fun b hb _ => hK2n b hb), hc2.mono (fun b hb _ => hK2n b hb), hc3.mono (fun b hb _ => hK2n b hb)⟩
    refine hK _ _ ⟨fun _ _ => hbx2, ?_⟩
    clear hK K hS hc1 hc2 hc3
    have hS := hbx2
    (try simp only [Act.put, List.setIfInBounds_toArray, List.set_cons_zero, List.set_cons_succ])
    repeat (first | (refine plan_soft rfl rfl rfl ?_; intro K hK; go_big_quiet_op; go_big_quiet_on))
    refine plan_do rfl rfl ?_; intro K hK
    go_wp2_with fail
    refine (add_calls K2 i S _ _ _ _ _ h2 hi hT heach).mono ?_
    rintro e w3 ⟨rfl, K3, e1, e2, e3⟩
    have hbx3 : w3.heap[w.heap.size]? = _ := (e2.block _ (Nat.lt_of_lt_of_le hlt1 hb2'.size) (by rw [hK2 _ hlt1, hBc]; exact fun e => hi e.symm)).trans hbx2
    refine hK _ _ ⟨fun _ _ => hbx3, ?_⟩
    clear hK K hS
    (try simp only [Act.put, List.setIfInBounds_toArray, List.set_cons_zero, List.set_cons_succ])
    show Exit.then _ _ _ _ _
    go_wp2
    first | refine bodyPost_ret (v := .tuple #[]) (by simp [results, Try.results12, go_sem]) rfl ?_ | refine bodyPost_end (v := .tuple #[]) (by simp [results, Try.results12, go_sem]) rfl ?_
    have hz1 := hSt.size
    have hz2 := hb2'.size
    exact ⟨rfl, K3, fun b hb => (e1 b (by omega)).trans ((hK2 b (by omega)).trans (hK0 b hb)), hSt.trans hK0 ((Step.of_below hb2').trans hK2 e2), e3⟩
end Go.Proofs.Ytplafccjgbeojaa
