/- slot.Slot.Feed: commits -/
import Derived.Test.YtplafccjgbeojaaFeed3
open Go Go.RowKit
namespace Go.Proofs.Ytplafccjgbeojaa
open Pm

/-- the second loop of a commit: the xids are dropped once more -/
structure L2 (Kl : Nat → Tag) (i : Nat) (Wl : World) (S : Nat) (s : Slot) (xl : List Int) (N : Nat) (xsa : Option Addr) (xsc : Nat) (q : Nat) (Kr : Nat → Tag) (tv : Value) (rows : List (List Value)) (ts : List Turn) (wr : World) : Prop where
  le : q ≤ N
  ext : Ext Kl Kr Wl.heap.size
  step : Step Kl i Wl wr
  rep : Rep wr Kr i S { s with follows := (xl.take q).foldl dropX s.follows }
  xs : IntsAt wr (Imm Kr) (.slice xsa N xsc) xl
  row : Row wr Kr 78 6 (0, 1, 0) tv rows
  rel : Rel₂ (TurnRow wr (Imm Kr)) [] dTurn rows ts

section
variable {Kl : Nat → Tag} {i : Nat} {Wl : World} {S : Nat} {s : Slot} {xl : List Int} {N : Nat} {xsa : Option Addr} {xsc : Nat} {q : Nat} {Kr : Nat → Tag} {tv : Value} {rows : List (List Value)} {ts : List Turn} {wr : World}

theorem L2.start {w2 : World} (hR : Rep Wl Kl i S s) (hb : Below Wl.heap.size Wl w2) (hxs : IntsAt w2 (fun b => Wl.heap.size ≤ b) (.slice xsa N xsc) xl) (hrow : Row Wl Kl 78 6 (0, 1, 0) tv rows) (hrel : Rel₂ (TurnRow Wl (Imm Kl)) [] dTurn rows ts) :
    L2 Kl i Wl S s xl N xsa xsc 0 (fun b => if b < Wl.heap.size then Kl b else (0, 0, 0)) tv rows ts w2 := by
  have hK : Ext Kl (fun b => if b < Wl.heap.size then Kl b else (0, 0, 0)) Wl.heap.size := fun b hb => by simp [hb]
  refine ⟨Nat.zero_le _, hK, Step.of_below hb, hR.below hb hK, hxs.mono fun b hb _ => ?_, hrow.frame hK (fun b hl _ => hb.block b hl), hrel.imp fun _ _ h => framed_turn.go (C := fun _ => False) h hb.size hK (fun b hl _ => hb.block b hl) (fun h => h)⟩
  have : ¬ b < Wl.heap.size := by omega
  simp [Imm, this]

theorem L2.next (h : L2 Kl i Wl S s xl N xsa xsc q Kr tv rows ts wr) (hi : i ≠ 0) (hN : xl.length = N) (hq : q < N) {tv' : Value} {M : Nat} {qv : Value} {tr qr : List (List Value)} {G : List (Follow × Nat)}
    (hR : RepP wr Kr i S { s with follows := (xl.take q).foldl dropX s.follows } tv' M qv tr qr G) {w' : World} (hmap : MapIs w' M ((G.map keyF).filter fun p => p.1 ≠ nth xl 0 q)) (hg : wr.grownBy w' (some M)) :
    L2 Kl i Wl S s xl N xsa xsc (q + 1) Kr tv rows ts w' := by
  have hC2 : ∀ b, b < wr.heap.size → Kr b ≠ (i, 1, 0) → w'.heap[b]? = wr.heap[b]? := fun b hb hn => hg.block b hb (fun e => hn (by simp at e; rw [e]; exact hR.kM))
  have hI2 : ¬ ((fun c : Tag => c = (i, 1, 0)) (0, 0, 0)) := by simp
  have hRD := hR.del (nth xl 0 q) hg.size (fun _ _ => rfl) hC2 hmap
  refine ⟨hq, h.ext, ?_, ?_, h.xs.frame (same_imm (C := fun c => c = (i, 1, 0)) hg.size hC2 hI2), h.row.frame (fun _ _ => rfl) (fun b hb hk => hC2 b hb (by rw [hk]; exact fun e => hi (congrArg Prod.fst e).symm)), h.rel.imp fun _ _ h => framed_turn.go (C := fun c => c = (i, 1, 0)) h hg.size (fun _ _ => rfl) hC2 hI2⟩
  · refine h.step.grown hg (fun b hb hl => ?_)
    simp at hb; subst hb
    rw [← h.ext _ hl, hR.kM]
  · rw [take_succ_nth xl 0 (by omega), List.foldl_append]
    exact ⟨_, _, _, _, _, _, hRD⟩
end

theorem elem_dones : Elem Try.prog 66 72 3 40 (.agg #[.int .i64 0, .int .i64 0, .slice none 0 0]) := .mk' Try.underlying66 (by kernel_rfl) rfl (by decide)

/-- the third loop of a commit: the changes told so far -/
structure L3 (w4 : World) (f0 lsn : Int) (rows : List (List Value)) (j : Nat) (na : Option Addr) (nc : Nat) (wr : World) : Prop where
  le : j ≤ rows.length
  blk : wr.heap[w4.heap.size]? = some (.cells #[.int .i64 f0, .int .i64 lsn, .slice na j nc] 72 (0, 0))
  own : wr.ownsRow 0 48 5 (.slice na j nc) j ((rows.take j).map List.tail).flatten
  fresh : ∀ b, Value.ownBlock (.slice na j nc) = some b → w4.heap.size + 1 ≤ b
  grown : (w4.alloc (.cells #[.int .i64 f0, .int .i64 lsn, .slice none 0 0] 72)).grownBy wr (some w4.heap.size)

theorem L3.end {w4 : World} {f0 lsn : Int} {rows : List (List Value)} {na : Option Addr} {nc : Nat} {wr : World} (h : L3 w4 f0 lsn rows rows.length na nc wr) {K2 : Nat → Tag} {ts : List Turn} (hk : ∀ r ∈ rows, r.length = 6) (hrel : Rel₂ (TurnRow w4 (Imm K2)) [] dTurn rows ts) :
    Below w4.heap.size w4 wr ∧ Ext K2 (fun b => if b < w4.heap.size then K2 b else (0, 0, 0)) w4.heap.size ∧ DoneRow wr (Imm fun b => if b < w4.heap.size then K2 b else (0, 0, 0)) [.int .i64 f0, .int .i64 lsn, .slice na rows.length nc] ⟨f0, ⟨lsn, ts.map (·.ch)⟩⟩ := by
  have hb : Below w4.heap.size w4 wr := ((Below.refl _ w4).alloc (Nat.le_refl _) _).trans (Below.of_grown h.grown (by simp) (fun k e => by simp at e; omega))
  have hK : Ext K2 (fun b => if b < w4.heap.size then K2 b else (0, 0, 0)) w4.heap.size := fun b hb => by simp [hb]
  refine ⟨hb, hK, _, rfl, na, rows.length, nc, rfl, rows.map List.tail, ?_, ?_⟩
  · have := h.own
    rw [List.take_length] at this
    refine SlAt.of_owns this (by simp) ?_ (fun b hb => ?_)
    · intro r hr
      obtain ⟨x, hx, rfl⟩ := List.mem_map.1 hr
      rw [List.length_tail, hk x hx]
    · have := h.fresh b hb
      have : ¬ b < w4.heap.size := by omega
      simp [Imm, this]
  · refine ⟨by simp [hrel.1], fun j hj => ?_⟩
    have hj' : j < ts.length := by simpa using hj
    rw [nth_map List.tail rows [] [] (by rw [hrel.1]; exact hj'), nth_map (·.ch) ts dTurn dChange hj']
    obtain ⟨rc, h1, h2⟩ := hrel.2 j hj'
    rw [h1]
    exact framed_change.go (C := fun _ => False) h2 hb.size hK (fun b hl _ => hb.block b hl) (fun h => h)

set_option maxRecDepth 100000 in
set_option maxHeartbeats 6400000 in
theorem feed_commit (Kc : Nat → Tag) (i S : Nat) (s : Slot) (n : Nat) (lsn : Int) (r : List Value) (x : Rec) (w : World) (h : Rep w Kc i S s) (hi : i ≠ 0) (hr : RecAt w (Imm Kc) r x) (hfit : Fits s n) (hinv : Inv s) (hl : s.last < lsn)
    (hk : x.kind = 5) (hb : x.xids.length ≤ 1000) :
    Calls Try.prog 12 #[.pointer (some ⟨S, 0, none⟩), .int .i64 lsn, .agg r.toArray] w fun e w' => e = .returned (.tuple #[]) ∧ ∃ K', Ext Kc K' w.heap.size ∧ Step Kc i w w' ∧ Rep w' K' i S { s with last := lsn, follows := left s.follows x, queue := s.queue ++ told s lsn x } := by
  have hr0 := hr
  obtain ⟨oa, on, oc, wa, wn, wc, ed, xa, xn, xc, rfl, hro, hrw, hrx⟩ := hr
  obtain ⟨tv, M, qv, tr, qr, G, h⟩ := h
  have hsl := lt_of_block h.blk
  have hSne : S ≠ w.heap.size := by omega
  have hBo : Below w.heap.size w (w.alloc (.cells #[.int .i64 x.kind, .int .i64 x.xid, .int .i64 x.table, .slice oa on oc, .slice wa wn wc, ed, .slice xa xn xc, .string x.note] 35 (0, 0))) := (Below.refl _ _).alloc (Nat.le_refl _) _
  obtain ⟨K0, hK0, hBc⟩ : ∃ K0 : Nat → Tag, Ext Kc K0 w.heap.size ∧ K0 w.heap.size = (0, 0, 0) := ⟨fun b => if b < w.heap.size then Kc b else (0, 0, 0), fun b hb => by simp [hb], by simp⟩
  have hSt : Step Kc i w ((w.setCell ⟨S, 2, none⟩ (.int .i64 lsn)).alloc (.cells #[.int .i64 x.kind, .int .i64 x.xid, .int .i64 x.table, .slice oa on oc, .slice wa wn wc, ed, .slice xa xn xc, .string x.note] 35 (0, 0))) := ((Step.refl Kc i w).set (fun _ => by rw [h.kS]) _).alloc _
  have hblk := Below.blk hBo h.blk
  have h1 : Rep ((w.setCell ⟨S, 2, none⟩ (.int .i64 lsn)).alloc (.cells #[.int .i64 x.kind, .int .i64 x.xid, .int .i64 x.table, .slice oa on oc, .slice wa wn wc, ed, .slice xa xn xc, .string x.note] 35 (0, 0))) K0 i S { s with last := lsn } :=
    ⟨tv, M, qv, tr, qr, G, h.head (s' := { s with last := lsn }) hSt.size hK0 hi (fun b hbl hbk => (Below.heap_alloc _ _ _ (by simpa using hbl)).trans (Below.heap_setCell _ _ _ _ (fun e => hbk (by rw [← h.kS]; exact congrArg Kc e)))) ((Below.heap_alloc _ _ _ (by simpa using hsl)).trans ((blk_set h.blk 2 _).trans rfl)) rfl rfl rfl⟩
  have hbox : ((w.setCell ⟨S, 2, none⟩ (.int .i64 lsn)).alloc (.cells #[.int .i64 x.kind, .int .i64 x.xid, .int .i64 x.table, .slice oa on oc, .slice wa wn wc, ed, .slice xa xn xc, .string x.note] 35 (0, 0))).heap[w.heap.size]? = some (.cells #[.int .i64 x.kind, .int .i64 x.xid, .int .i64 x.table, .slice oa on oc, .slice wa wn wc, ed, .slice xa xn xc, .string x.note] 35 (0, 0)) := by have := heap_alloc_new (w.setCell ⟨S, 2, none⟩ (.int .i64 lsn)) (.cells #[.int .i64 x.kind, .int .i64 x.xid, .int .i64 x.table, .slice oa on oc, .slice wa wn wc, ed, .slice xa xn xc, .string x.note] 35 (0, 0)); simpa using this
  have hrec := hr0.go (C := fun c => c.1 = i) hSt.size hK0 hSt.block (fun e => hi e.symm)
  have hxs : IntsAt ((w.setCell ⟨S, 2, none⟩ (.int .i64 lsn)).alloc (.cells #[.int .i64 x.kind, .int .i64 x.xid, .int .i64 x.table, .slice oa on oc, .slice wa wn wc, ed, .slice xa xn xc, .string x.note] 35 (0, 0))) (Imm K0) (.slice xa xn xc) x.xids := by
    obtain ⟨_, _, _, _, _, _, _, _, _, _, he, _, _, h4⟩ := hrec
    simp only [List.cons.injEq, Value.slice.injEq] at he
    obtain ⟨_, _, _, _, _, _, ⟨rfl, rfl, rfl⟩, _⟩ := he
    exact h4
  clear h hr0 hro hrw hrx hrec
  obtain ⟨kd, xid, tab, old, new, xids, note⟩ := x
  simp only at *
  subst hk
  obtain ⟨sc, sf, sl⟩ := bfacts hblk
  obtain ⟨bc, bf, bl⟩ := bfacts hbox
  go_enter Try.func12, Try.ntmps12
  go_wp2_with fail
  generalize hW1 : (w.setCell ⟨S, 2, none⟩ (.int .i64 lsn)).alloc _ = W1 at *
  refine Code.wp_mono (Q := fun e a' w' => e = .normal ∧ a'.defers = [] ∧ ∃ xsa xsc, (IntsAt w' (fun b => W1.heap.size ≤ b) (.slice xsa (xids.length + 1) xsc) (xids ++ [xid]) ∧ Below W1.heap.size W1 w') ∧
      ∃ u : Nat → Value, a'.tmps = (.pointer (some ⟨S, 0, none⟩) :: .int .i64 lsn :: u 2 :: u 3 :: u 4 :: .pointer (some ⟨w.heap.size, 0, none⟩) :: .slice none 0 0 :: u 7 :: u 8 :: u 9 :: u 10 :: u 11 :: u 12 :: u 13 :: u 14 :: u 15 :: u 16 :: u 17 :: u 18 :: u 19 :: u 20 :: u 21 :: u 22 :: u 23 :: u 24 :: u 25 :: u 26 :: u 27 :: u 28 :: u 29 :: u 30 :: u 31 :: u 32 :: u 33 :: u 34 :: u 35 :: u 36 :: u 37 :: u 38 :: u 39 :: u 40 :: u 41 :: u 42 :: u 43 :: u 44 :: u 45 :: u 46 :: u 47 :: u 48 :: u 49 :: u 50 :: u 51 :: u 52 :: u 53 :: u 54 :: u 55 :: u 56 :: u 57 :: u 58 :: u 59 :: u 60 :: u 61 :: u 62 :: u 63 :: u 64 :: u 65 :: u 66 :: u 67 :: u 68 :: u 69 :: u 70 :: u 71 :: u 72 :: u 73 :: u 74 :: u 75 :: u 76 :: u 77 :: .slice xsa (xids.length + 1) xsc :: .int .i64 (xids.length + 1 : Nat) :: .int .i64 0 :: u 81 :: u 82 :: u 83 :: u 84 :: u 85 :: u 86 :: u 87 :: u 88 :: u 89 :: u 90 :: u 91 :: u 92 :: u 93 :: u 94 :: u 95 :: u 96 :: u 97 :: u 98 :: u 99 :: u 100 :: u 101 :: u 102 :: u 103 :: u 104 :: u 105 :: u 106 :: u 107 :: u 108 :: u 109 :: u 110 :: u 111 :: u 112 :: u 113 :: u 114 :: u 115 :: u 116 :: u 117 :: u 118 :: u 119 :: u 120 :: u 121 :: u 122 :: u 123 :: u 124 :: u 125 :: u 126 :: u 127 :: u 128 :: u 129 :: u 130 :: u 131 :: u 132 :: u 133 :: u 134 :: u 135 :: u 136 :: u 137 :: u 138 :: u 139 :: u 140 :: u 141 :: u 142 :: u 143 :: u 144 :: u 145 :: u 146 :: u 147 :: u 148 :: u 149 :: u 150 :: u 151 :: u 152 :: u 153 :: u 154 :: u 155 :: u 156 :: u 157 :: u 158 :: u 159 :: u 160 :: u 161 :: u 162 :: u 163 :: u 164 :: u 165 :: u 166 :: u 167 :: u 168 :: u 169 :: u 170 :: u 171 :: u 172 :: []).toArray) ?_ ?_
  case refine_2 =>
    refine wp_region_tree (fun W' => Below W1.heap.size W1 W') [] (.seq [(0, 0), (1, 1), (3, 0), (4, 1), (8, 0)] (.fork 2 (.seq [(5, 2), (6, 2), (7, 0)] .done) 5 (.seq [(2, 2), (6, 2), (7, 0)] .done))) (by kernel_rfl) (by kernel_rfl) (fun _ _ d _ _ h => by first | exact absurd h.1 (fun h => by cases h) | (cases d <;> exact h)) (PT.start ?_)
    have hS : Below W1.heap.size W1 W1.drew := (Below.refl _ _).drew
    repeat (first | (refine plan_soft rfl rfl rfl ?_; intro K hK; go_big_quiet_op; go_big_quiet_on) | (refine plan_load hS rfl rfl rfl rfl (fun w' hw' => loadVar_one (by kernel_rfl) (((bfacts (Below.blk hw' hbox)).1 _).trans rfl)) ?_; (try simp only [Act.put, List.setIfInBounds_toArray, List.set_cons_zero, List.set_cons_succ])))
    have hxf : ∀ W, Below W1.heap.size W1 W → IntsAt W (Imm K0) (.slice xa xn xc) xids := fun W h => hxs.frame (Same.of_below h)
    have hlen1 : (xids.map cInt).length = xids.length := by simp
    (refine pt_fork rfl rfl rfl rfl ?_ ?_ <;> intro K hK)
    · go_wp2_with fail
      refine (clone_ints_o _ xids (Imm K0) _ (hxf _ hS) (by omega)).mono ?_
      rintro e w1 ⟨ca, cc, rfl, hown, hfr, hb1⟩
      have hS' := Below.step hS (Nat.le_refl _) hb1
      refine hK _ _ ⟨fun _ _ => hS', PT.start ?_⟩
      have hfr' : ∀ b, Value.ownBlock (.slice ca xids.length cc) = some b → W1.heap.size ≤ b := hfr
      clear hK K hS hb1 hfr
      (try simp only [Act.put, List.setIfInBounds_toArray, List.set_cons_zero, List.set_cons_succ])
      refine plan_do rfl rfl ?_; intro K hK
      go_wp2_with fail
      have hS2 := hS'.alloc hS'.size (.cells #[.int .i64 xid] 3 (0, 0))
      refine ⟨fun _ _ => hS2, ?_⟩
      have hx1 := slat_new (w := w1) (e := 3) (cs := #[.int .i64 xid]) (k := 1) (m := 1) [[.int .i64 xid]] rfl (by simp) rfl (by simp)
      (try simp only [Act.put, List.setIfInBounds_toArray, List.set_cons_zero, List.set_cons_succ])
      refine plan_do rfl rfl ?_; intro K hK
      refine oper_app1 _ _ _ rfl elem_ints (.slice ca xids.length cc) rfl (hown.alloc _) (.slice (some ⟨w1.heap.size, 0, none⟩) 1 1) rfl [.int .i64 xid] hx1 (by simp [Value.oneCell']) (by omega) (by omega) ?_
      intro va vc w2 hown2 hg2 hl2
      have hB2 : Below W1.heap.size W1 w2 := hS2.grown hg2 (by have := hS2.size; exact this) (fun b hb => hfr' b hb)
      refine hK _ _ ⟨fun _ _ => hB2, ?_⟩
      (try simp only [Act.put, List.setIfInBounds_toArray, List.set_cons_zero, List.set_cons_succ])
      repeat (first | (refine plan_soft rfl rfl rfl ?_; intro K hK; go_big_quiet_op; go_big_quiet_on))
      have hfin : IntsAt w2 (fun b => W1.heap.size ≤ b) (.slice va (xids.length + 1) vc) (xids ++ [xid]) := by
        unfold IntsAt
        rw [List.map_append]
        refine SlAt.of_owns hown2 (by simp) (by intro r hr; rcases List.mem_append.1 hr with hr | hr; obtain ⟨y, _, rfl⟩ := List.mem_map.1 hr; rfl; simp at hr; subst hr; rfl) (fun b hb => ?_)
        rcases hl2 with e | e
        · exact hfr' b (e ▸ hb)
        · rw [e] at hb; have := hS2.size; simp at hb this; omega
      exact ⟨rfl, rfl, va, vc, ⟨hfin, hB2⟩, forget _ rfl⟩
    · go_wp2_with fail
      have hS2 := hS.alloc hS.size (.cells #[.int .i64 xid] 3 (0, 0))
      refine ⟨fun _ _ => hS2, PT.start ?_⟩
      have hx0 := slat_new (w := W1.drew) (e := 3) (cs := #[.int .i64 xid]) (k := 1) (m := 1) [[.int .i64 xid]] rfl (by simp) rfl (by simp)
      simp only [World.size_drew] at hx0
      (try simp only [Act.put, List.setIfInBounds_toArray, List.set_cons_zero, List.set_cons_succ])
      refine plan_do rfl rfl ?_; intro K hK
      go_wp2_with fail
      refine (clone_ints_o _ xids (Imm K0) _ (hxf _ hS2) (by omega)).mono ?_
      rintro e w1 ⟨ca, cc, rfl, hown, hfr, hb1⟩
      have hS' := Below.step hS2 (Nat.le_refl _) hb1
      refine hK _ _ ⟨fun _ _ => hS', ?_⟩
      have hfr' : ∀ b, Value.ownBlock (.slice ca xids.length cc) = some b → W1.heap.size ≤ b := fun b hb => by have := hfr b hb; simp at this; omega
      have hx1 := hx0.frame (Same.of_below hb1)
      clear hK K hS hb1 hfr
      (try simp only [Act.put, List.setIfInBounds_toArray, List.set_cons_zero, List.set_cons_succ])
      refine plan_do rfl rfl ?_; intro K hK
      refine oper_app1 _ _ _ rfl elem_ints (.slice ca xids.length cc) rfl hown (.slice (some ⟨W1.heap.size, 0, none⟩) 1 1) rfl [.int .i64 xid] hx1 (by simp [Value.oneCell']) (by omega) (by omega) ?_
      intro va vc w2 hown2 hg2 hl2
      have hB2 : Below W1.heap.size W1 w2 := hS'.grown hg2 (by have := hS'.size; exact this) (fun b hb => hfr' b hb)
      refine hK _ _ ⟨fun _ _ => hB2, ?_⟩
      (try simp only [Act.put, List.setIfInBounds_toArray, List.set_cons_zero, List.set_cons_succ])
      repeat (first | (refine plan_soft rfl rfl rfl ?_; intro K hK; go_big_quiet_op; go_big_quiet_on))
      have hfin : IntsAt w2 (fun b => W1.heap.size ≤ b) (.slice va (xids.length + 1) vc) (xids ++ [xid]) := by
        unfold IntsAt
        rw [List.map_append]
        refine SlAt.of_owns hown2 (by simp) (by intro r hr; rcases List.mem_append.1 hr with hr | hr; obtain ⟨y, _, rfl⟩ := List.mem_map.1 hr; rfl; simp at hr; subst hr; rfl) (fun b hb => ?_)
        rcases hl2 with e | e
        · exact hfr' b (e ▸ hb)
        · rw [e] at hb; have := hS'.size; simp at hb this; omega
      exact ⟨rfl, rfl, va, vc, ⟨hfin, hB2⟩, forget _ rfl⟩
  rintro e ⟨T, Df⟩ W2 ⟨rfl, hd, xsa, xsc, ⟨hxs2, hbel2⟩, u, hT⟩
  simp only at hd hT
  subst hd hT
  show Exit.then _ _ _ _ _
  go_wp2_with fail
  generalize hxl : xids ++ [xid] = xl at *
  have hxn : xl.length = xids.length + 1 := by rw [← hxl]; simp
  have hxb : xids.length ≤ 1000 := hb
  obtain ⟨N, hN⟩ : ∃ N, xids.length + 1 = N := ⟨_, rfl⟩
  have hNb : N ≤ 1001 := by omega
  have hN0 : 0 < N := by omega
  simp only [hN] at *
  have HXN := Lib.hid hxn
  have HXL := Lib.hid hxl
  have HN := Lib.hid (show xids.length + 1 = N by rw [← HXN.out, ← HXL.out]; simp)
  clear hxn hxl hN sc sf sl bc bf bl hblk
  have hdl : ∀ q, ((xl.take q).foldl drain1 (s.follows, [])).2.length ≤ 1000000 := fun q => by have := drained_len (xl.take q) s.follows; have := hfit.turns; have := hfit.le; omega
  have HDL := Lib.hid hdl
  clear hdl
  go_loopw [6, 80] (fun t6 i1 wr => ∃ (q : Nat) (Kr : Nat → Tag) (ta : Option Addr) (tc : Nat) (rows : List (List Value)) (D : List Follow × List Turn), i1 = .int .i64 q ∧ t6 = .slice ta rows.length tc ∧ L1 K0 i W1 S s lsn xl N xsa xsc q Kr ta tc rows D wr) (fun _ i1 _ => N - (intOf i1).toNat)
  case atStart =>
    refine ⟨0, fun b => if b < W1.heap.size then K0 b else (0, 0, 0), none, 0, [], (s.follows, []), rfl, rfl, ⟨rfl, Nat.zero_le _, fun b hb => by simp [hb], Step.of_below hbel2, h1.below hbel2 (fun b hb => by simp [hb]), hxs2.mono fun b hb _ => ?_, Row.nil _ _ _ _ _, Rel₂.nil, by simp [Value.ownBlock]⟩⟩
    have : ¬ b < W1.heap.size := by omega
    simp [Imm, this]
  case round =>
    obtain ⟨q, Kr, ta, tc, rows, D, rfl, rfl, hL⟩ := hrel
    have hq := hL.q
    by_cases hlt : q < N
    · obtain ⟨tv', M', qv', tr', qr', G', hR⟩ := hL.rep
      obtain ⟨a', cap', he, _, _, ⟨h0, _⟩ | ⟨xb, xo, rfl, hxi, hxbl⟩⟩ := SlAt.open hL.xs
      · rw [List.map_eq_nil_iff] at h0; have := HXN.out; rw [h0] at this; simp at this; omega
      simp only [Value.slice.injEq] at he
      obtain ⟨rfl, he1, he2⟩ := he
      clear he1 he2
      have hX : SlAt wr (Imm Kr) 1 (.slice (some ⟨xb, xo, none⟩) N xsc) (xl.map cInt) := hL.xs
      have hc := hX.cell (i := q) (j := 0) (x := .int .i64 (nth xl 0 q)) (by simp; have := HXN.out; omega) (by rw [nth_map cInt xl 0 [] (by have := HXN.out; omega)]; rfl)
      simp only [Nat.mul_one, Nat.add_zero] at hc
      obtain ⟨uc, uf, ul⟩ := bfacts hR.blk
      by_cases hit : ∃ g ∈ G', g.1.xid = nth xl 0 q
      · obtain ⟨⟨f, F⟩, hm, hx⟩ := hit
        simp only at hx
        have hlook := hR.map.hit (P := Try.prog) (t := 68) Try.underlying68 Try.underlying3 (x := nth xl 0 q) (F := F) (List.mem_map.2 ⟨_, hm, by simp [keyF, hx]⟩)
        have HX := Lib.hid hx
        clear hx
        obtain ⟨hv, sv, r1, r2, q1, q2, q3, q4, q5, q6, q7⟩ := hR.each _ hm
        obtain ⟨fc, ff, fl⟩ := bfacts q1
        obtain ⟨ha, hc', rfl, hq1, hq2, hq3⟩ := q3.open
        obtain ⟨sa, sc', rfl, sq1, sq2, sq3⟩ := q4.open
        have hrl := hL.rel.1
        have hD2 := HDL.out (q + 1)
        have hdr : ((xl.take (q + 1)).foldl drain1 (s.follows, [])) = drain1 D (nth xl 0 q) := by rw [take_succ_nth xl 0 (by have := HXN.out; omega), List.foldl_append, ← hL.d]; rfl
        rw [hdr] at hD2
        have hfD : (drain1 D (nth xl 0 q)).2.length = D.2.length + f.turns.length := by
          have e : D.1 = G'.map (·.1) := hR.fol.symm
          have hk : (D.1.map (·.xid)).Nodup := by have := hR.map.nodup; rw [List.map_map] at this; rw [e, List.map_map]; exact this
          have := turnsOf_mem D.1 hk (f := f) (by rw [e]; exact List.mem_map.2 ⟨_, hm, rfl⟩)
          rw [HX.out] at this
          unfold drain1
          rw [this, List.length_append]
        have hr12 : r1.length + r2.length = f.turns.length := by have := q5.1; simpa using this
        have hnl : rows.length + r1.length + r2.length ≤ 1000000 := by omega
        have hone := rel_turn_one q5
        have hlen1 : ∀ r ∈ r1, r.length = 6 := fun r hr => (hone r (List.mem_append.2 (.inl hr))).1
        have hlen2 : ∀ r ∈ r2, r.length = 6 := fun r hr => (hone r (List.mem_append.2 (.inr hr))).1
        have hone1 : ∀ r ∈ r1, ∀ u ∈ r, u.oneCell' = true := fun r hr => (hone r (List.mem_append.2 (.inl hr))).2
        have hone2 : ∀ r ∈ r2, ∀ u ∈ r, u.oneCell' = true := fun r hr => (hone r (List.mem_append.2 (.inr hr))).2
        have HO := Lib.hid (And.intro hlen1 (And.intro hlen2 (And.intro hone1 hone2)))
        have HR12 := Lib.hid hrl
        clear hrl hD2 hdr hfD hr12 hone hlen1 hlen2 hone1 hone2
        have hneF : Value.ownBlock (.slice ta rows.length tc) ≠ some F := fun e => by have := hL.row.col F e; rw [q2] at this; simp at this
        generalize hy : nth xl 0 q = y at *
        have HY := Lib.hid hy
        clear hy
        go_wp2_with fail
        have hW : Below wr.heap.size wr wr.drew := (Below.refl _ _).drew
        refine wp_region_plan (fun W => W.heap[F]? = some (.cells #[.int .i64 f.first, .slice ha r1.length hc', .slice sa r2.length sc'] 86 (0, 0))) [] [(0, 0), (1, 0), (2, 0), (3, 0), (4, 1), (6, 0), (7, 0), (8, 0), (9, 1), (5, 2), (10, 2), (11, 0)] (by kernel_rfl) (by kernel_rfl) (fun _ _ d _ _ h => by first | exact absurd h.1 (fun h => by cases h) | (cases d <;> exact h)) ?_
        have hS : wr.drew.heap[F]? = some (.cells #[.int .i64 f.first, .slice ha r1.length hc', .slice sa r2.length sc'] 86 (0, 0)) := q1
        repeat (first | (refine plan_soft rfl rfl rfl ?_; intro K hK; go_big_quiet_op; go_big_quiet_on) | (refine plan_load hS rfl rfl rfl rfl (fun w' hw' => loadVar_one (by kernel_rfl) (((bfacts hw').1 _).trans rfl)) ?_; (try simp only [Act.put, List.setIfInBounds_toArray, List.set_cons_zero, List.set_cons_succ])))
        refine plan_do rfl rfl ?_; intro K hK
        refine oper_app _ _ _ rfl elem_turns (v := .slice ta rows.length tc) rfl (owns_below hL.row.owns hW) (vx := .slice ha r1.length hc') rfl (q3.slat.frame (Same.of_below hW)) HO.out.2.2.1 (by omega) (by omega) ?_
        intro v1 wA hown1 hg1 _ ho1
        have hS' : wA.heap[F]? = some (.cells #[.int .i64 f.first, .slice ha r1.length hc', .slice sa r2.length sc'] 86 (0, 0)) := (hg1.block F (lt_of_block hS) (fun e => hneF e.symm)).trans hS
        refine hK _ _ ⟨fun _ _ => hS', ?_⟩
        obtain ⟨a1, c1, rfl⟩ := owns_open hown1
        clear hK K hS
        have hS := hS'
        clear hS'
        (try simp only [Act.put, List.setIfInBounds_toArray, List.set_cons_zero, List.set_cons_succ])
        repeat (first | (refine plan_soft rfl rfl rfl ?_; intro K hK; go_big_quiet_op; go_big_quiet_on) | (refine plan_load hS rfl rfl rfl rfl (fun w' hw' => loadVar_one (by kernel_rfl) (((bfacts hw').1 _).trans rfl)) ?_; (try simp only [Act.put, List.setIfInBounds_toArray, List.set_cons_zero, List.set_cons_succ])))
        have hsrc2 := (q4.slat.frame (Same.of_below hW)).frame (Same.grown hg1 (fun b hb e => by have := hL.row.col b e.symm; rw [hb] at this; simp at this))
        refine plan_do rfl rfl ?_; intro K hK
        refine oper_app _ _ _ rfl elem_turns (v := .slice a1 (rows.length + r1.length) c1) rfl hown1 (vx := .slice sa r2.length sc') rfl hsrc2 HO.out.2.2.2 (by omega) (by omega) ?_
        intro v2 wB hown2 hg2 _ ho2
        have hne1 : Value.ownBlock (.slice a1 (rows.length + r1.length) c1) ≠ some F := by
          rcases ho1 with e | e
          · rw [e]; exact hneF
          · rw [e]; have := lt_of_block q1; simp; omega
        have hS' : wB.heap[F]? = some (.cells #[.int .i64 f.first, .slice ha r1.length hc', .slice sa r2.length sc'] 86 (0, 0)) := (hg2.block F (lt_of_block hS) (fun e => hne1 e.symm)).trans hS
        refine hK _ _ ⟨fun _ _ => hS', ?_⟩
        obtain ⟨a2, c2, rfl⟩ := owns_open hown2
        clear hK K hS hS'
        (try simp only [Act.put, List.setIfInBounds_toArray, List.set_cons_zero, List.set_cons_succ])
        repeat (first | (refine plan_soft rfl rfl rfl ?_; intro K hK; go_big_quiet_op; go_big_quiet_on))
        show Exit.then _ _ _ _ _
        obtain ⟨KB, e1, e2, e3, e4, e5, e6, e7, e8⟩ := two_apps hL.row hW HO.out.1 HO.out.2.1 hg1 ho1 hown2 hg2 ho2
        have hmB : MapIs wB M' (G'.map keyF) := hR.map.frame (e3 M' hR.map.lt (fun e => by have := hL.row.col M' e; rw [hR.kM] at this; simp at this; exact hi this))
        have hSB := (e3 S (lt_of_block hR.blk) (fun e => by have := hL.row.col S e; rw [hR.kS] at this; simp at this)).trans hR.blk
        obtain ⟨vc, vf, vl⟩ := bfacts hSB
        obtain ⟨w', hrun, hmap, hg, hsz⟩ := hmB.drop (P := Try.prog) (t := 68) (x := y) Try.underlying68 Try.underlying3 0
        clear uc uf ul fc ff fl hc hlook hsrc2 hown1 hown2 q6 q7 hX
        go_wp2_with (at_delete; refine wpList_drop rfl _ _ _ _ rfl M' rfl _ rfl hrun ?_)
        go_roundw
        case measure => simp [intOf]; omega
        case rel =>
          have hfin := hL.hit hi HXN.out hlt hR hm (HX.out.trans HY.out.symm) q5 e1 e2 e3 e4 e5 e6 e7 e8 (by rw [HY.out]; exact hmap) hg
          rw [HY.out] at hfin
          exact ⟨q + 1, KB, a2, c2, rows ++ r1 ++ r2, drain1 D y, by go_num, by rw [hfin.1], hfin.2⟩
      · have hmiss : ∀ p ∈ G'.map keyF, p.1 ≠ nth xl 0 q := by
          intro p hp e
          obtain ⟨g, hg, rfl⟩ := List.mem_map.1 hp
          exact hit ⟨g, hg, e⟩
        have hlook := hR.map.miss (P := Try.prog) (t := 68) Try.underlying68 Try.underlying3 (run_zero (by kernel_rfl) _) hmiss
        have hL' := hL.miss HXN.out hlt (fun f hf e => hit (by have e2 : D.1 = G'.map (·.1) := hR.fol.symm; rw [e2] at hf; obtain ⟨g, hg, rfl⟩ := List.mem_map.1 hf; exact ⟨g, hg, e⟩))
        generalize hy : nth xl 0 q = y at *
        clear hit hmiss hy
        go_wp2
        go_roundw
        case measure => simp [intOf]; omega
        case rel => exact ⟨q + 1, Kr, ta, tc, rows, D, by go_num, rfl, hL'⟩
    · have hqq : q = N := by omega
      have hD := hL.d
      rw [hqq, ← HXN.out, List.take_length] at hD
      have HDD := Lib.hid hD
      obtain ⟨wo, rfl⟩ : ∃ x, x = wr := ⟨_, rfl⟩
      have hboxl := (hL.step.block _ (lt_of_block hbox) (by rw [hBc]; exact fun e => hi e.symm)).trans hbox
      have hxsl : IntsAt wo (Imm Kr) (.slice xa xn xc) xids := ((hxs.mono (Q := fun b => Imm K0 b ∧ b < W1.heap.size) (fun b hb hl => ⟨hb, hl⟩)).frame (hL.step.same (fun b hb => by rw [hb.1]; exact fun e => hi e.symm))).mono fun b hb _ => (hL.ext b hb.2).trans hb.1
      have hst1 := hL.step
      have hex1 := hL.ext
      have hrow1 := hL.row
      have hrel1 := hL.rel
      have hrep1 := hL.rep
      have hfr1 := hL.fresh
      have hrl := hrel1.1
      have hrn : rows.length ≤ 1000000 := by have := HDL.out N; rw [← HXN.out, List.take_length, ← HDD.out] at this; omega
      clear hD hqq hq hL hxs hxs2 hbel2 h1 hrl
      go_wp2_with fail
      clear hlt
      refine Code.wp_mono (Q := fun e a' w' => e = .normal ∧ a'.defers = [] ∧ ∃ xsa xsc, (IntsAt w' (fun b => wo.heap.size ≤ b) (.slice xsa (xids.length + 1) xsc) (xids ++ [xid]) ∧ Below wo.heap.size wo w') ∧
          ∃ u : Nat → Value, a'.tmps = (.pointer (some ⟨S, 0, none⟩) :: .int .i64 lsn :: u 2 :: u 3 :: u 4 :: .pointer (some ⟨w.heap.size, 0, none⟩) :: .slice ta rows.length tc :: u 7 :: u 8 :: u 9 :: u 10 :: u 11 :: u 12 :: u 13 :: u 14 :: u 15 :: u 16 :: u 17 :: u 18 :: u 19 :: u 20 :: u 21 :: u 22 :: u 23 :: u 24 :: u 25 :: u 26 :: u 27 :: u 28 :: u 29 :: u 30 :: u 31 :: u 32 :: u 33 :: u 34 :: u 35 :: u 36 :: u 37 :: u 38 :: u 39 :: u 40 :: u 41 :: u 42 :: u 43 :: u 44 :: u 45 :: u 46 :: u 47 :: u 48 :: u 49 :: u 50 :: u 51 :: u 52 :: u 53 :: u 54 :: u 55 :: u 56 :: u 57 :: u 58 :: u 59 :: u 60 :: u 61 :: u 62 :: u 63 :: u 64 :: u 65 :: u 66 :: u 67 :: u 68 :: u 69 :: u 70 :: u 71 :: u 72 :: u 73 :: u 74 :: u 75 :: u 76 :: u 77 :: u 78 :: u 79 :: u 80 :: u 81 :: u 82 :: u 83 :: u 84 :: u 85 :: u 86 :: u 87 :: u 88 :: u 89 :: u 90 :: u 91 :: u 92 :: u 93 :: u 94 :: u 95 :: u 96 :: u 97 :: u 98 :: u 99 :: u 100 :: u 101 :: u 102 :: u 103 :: u 104 :: u 105 :: u 106 :: u 107 :: u 108 :: u 109 :: u 110 :: u 111 :: u 112 :: u 113 :: u 114 :: .slice xsa (xids.length + 1) xsc :: .int .i64 (xids.length + 1 : Nat) :: .int .i64 0 :: u 118 :: u 119 :: u 120 :: u 121 :: u 122 :: u 123 :: u 124 :: u 125 :: u 126 :: u 127 :: u 128 :: u 129 :: u 130 :: u 131 :: u 132 :: u 133 :: u 134 :: u 135 :: u 136 :: u 137 :: u 138 :: u 139 :: u 140 :: u 141 :: u 142 :: u 143 :: u 144 :: u 145 :: u 146 :: u 147 :: u 148 :: u 149 :: u 150 :: u 151 :: u 152 :: u 153 :: u 154 :: u 155 :: u 156 :: u 157 :: u 158 :: u 159 :: u 160 :: u 161 :: u 162 :: u 163 :: u 164 :: u 165 :: u 166 :: u 167 :: u 168 :: u 169 :: u 170 :: u 171 :: u 172 :: []).toArray) ?_ ?_
      case refine_2 =>
        refine wp_region_tree (fun W' => Below wo.heap.size wo W') [] (.seq [(0, 0), (1, 1), (3, 0), (4, 1), (8, 0)] (.fork 2 (.seq [(5, 2), (6, 2), (7, 0)] .done) 5 (.seq [(2, 2), (6, 2), (7, 0)] .done))) (by kernel_rfl) (by kernel_rfl) (fun _ _ d _ _ h => by first | exact absurd h.1 (fun h => by cases h) | (cases d <;> exact h)) (PT.start ?_)
        have hS : Below wo.heap.size wo wo.drew := (Below.refl _ _).drew
        repeat (first | (refine plan_soft rfl rfl rfl ?_; intro K hK; go_big_quiet_op; go_big_quiet_on) | (refine plan_load hS rfl rfl rfl rfl (fun w' hw' => loadVar_one (by kernel_rfl) (((bfacts (Below.blk hw' hboxl)).1 _).trans rfl)) ?_; (try simp only [Act.put, List.setIfInBounds_toArray, List.set_cons_zero, List.set_cons_succ])))
        have hxf : ∀ W, Below wo.heap.size wo W → IntsAt W (Imm Kr) (.slice xa xn xc) xids := fun W h => hxsl.frame (Same.of_below h)
        have hlen1 : (xids.map cInt).length = xids.length := by simp
        (refine pt_fork rfl rfl rfl rfl ?_ ?_ <;> intro K hK)
        · go_wp2_with fail
          refine (clone_ints_o _ xids (Imm Kr) _ (hxf _ hS) (by omega)).mono ?_
          rintro e w1 ⟨ca, cc, rfl, hown, hfr, hb1⟩
          have hS' := Below.step hS (Nat.le_refl _) hb1
          refine hK _ _ ⟨fun _ _ => hS', PT.start ?_⟩
          have hfr' : ∀ b, Value.ownBlock (.slice ca xids.length cc) = some b → wo.heap.size ≤ b := hfr
          clear hK K hS hb1 hfr
          (try simp only [Act.put, List.setIfInBounds_toArray, List.set_cons_zero, List.set_cons_succ])
          refine plan_do rfl rfl ?_; intro K hK
          go_wp2_with fail
          have hS2 := hS'.alloc hS'.size (.cells #[.int .i64 xid] 3 (0, 0))
          refine ⟨fun _ _ => hS2, ?_⟩
          have hx1 := slat_new (w := w1) (e := 3) (cs := #[.int .i64 xid]) (k := 1) (m := 1) [[.int .i64 xid]] rfl (by simp) rfl (by simp)
          (try simp only [Act.put, List.setIfInBounds_toArray, List.set_cons_zero, List.set_cons_succ])
          refine plan_do rfl rfl ?_; intro K hK
          refine oper_app1 _ _ _ rfl elem_ints (.slice ca xids.length cc) rfl (hown.alloc _) (.slice (some ⟨w1.heap.size, 0, none⟩) 1 1) rfl [.int .i64 xid] hx1 (by simp [Value.oneCell']) (by omega) (by omega) ?_
          intro va vc w2 hown2 hg2 hl2
          have hB2 : Below wo.heap.size wo w2 := hS2.grown hg2 (by have := hS2.size; exact this) (fun b hb => hfr' b hb)
          refine hK _ _ ⟨fun _ _ => hB2, ?_⟩
          (try simp only [Act.put, List.setIfInBounds_toArray, List.set_cons_zero, List.set_cons_succ])
          repeat (first | (refine plan_soft rfl rfl rfl ?_; intro K hK; go_big_quiet_op; go_big_quiet_on))
          have hfin : IntsAt w2 (fun b => wo.heap.size ≤ b) (.slice va (xids.length + 1) vc) (xids ++ [xid]) := by
            unfold IntsAt
            rw [List.map_append]
            refine SlAt.of_owns hown2 (by simp) (by intro r hr; rcases List.mem_append.1 hr with hr | hr; obtain ⟨y, _, rfl⟩ := List.mem_map.1 hr; rfl; simp at hr; subst hr; rfl) (fun b hb => ?_)
            rcases hl2 with e | e
            · exact hfr' b (e ▸ hb)
            · rw [e] at hb; have := hS2.size; simp at hb this; omega
          exact ⟨rfl, rfl, va, vc, ⟨hfin, hB2⟩, forget _ rfl⟩
        · go_wp2_with fail
          have hS2 := hS.alloc hS.size (.cells #[.int .i64 xid] 3 (0, 0))
          refine ⟨fun _ _ => hS2, PT.start ?_⟩
          have hx0 := slat_new (w := wo.drew) (e := 3) (cs := #[.int .i64 xid]) (k := 1) (m := 1) [[.int .i64 xid]] rfl (by simp) rfl (by simp)
          simp only [World.size_drew] at hx0
          (try simp only [Act.put, List.setIfInBounds_toArray, List.set_cons_zero, List.set_cons_succ])
          refine plan_do rfl rfl ?_; intro K hK
          go_wp2_with fail
          refine (clone_ints_o _ xids (Imm Kr) _ (hxf _ hS2) (by omega)).mono ?_
          rintro e w1 ⟨ca, cc, rfl, hown, hfr, hb1⟩
          have hS' := Below.step hS2 (Nat.le_refl _) hb1
          refine hK _ _ ⟨fun _ _ => hS', ?_⟩
          have hfr' : ∀ b, Value.ownBlock (.slice ca xids.length cc) = some b → wo.heap.size ≤ b := fun b hb => by have := hfr b hb; simp at this; omega
          have hx1 := hx0.frame (Same.of_below hb1)
          clear hK K hS hb1 hfr
          (try simp only [Act.put, List.setIfInBounds_toArray, List.set_cons_zero, List.set_cons_succ])
          refine plan_do rfl rfl ?_; intro K hK
          refine oper_app1 _ _ _ rfl elem_ints (.slice ca xids.length cc) rfl hown (.slice (some ⟨wo.heap.size, 0, none⟩) 1 1) rfl [.int .i64 xid] hx1 (by simp [Value.oneCell']) (by omega) (by omega) ?_
          intro va vc w2 hown2 hg2 hl2
          have hB2 : Below wo.heap.size wo w2 := hS'.grown hg2 (by have := hS'.size; exact this) (fun b hb => hfr' b hb)
          refine hK _ _ ⟨fun _ _ => hB2, ?_⟩
          (try simp only [Act.put, List.setIfInBounds_toArray, List.set_cons_zero, List.set_cons_succ])
          repeat (first | (refine plan_soft rfl rfl rfl ?_; intro K hK; go_big_quiet_op; go_big_quiet_on))
          have hfin : IntsAt w2 (fun b => wo.heap.size ≤ b) (.slice va (xids.length + 1) vc) (xids ++ [xid]) := by
            unfold IntsAt
            rw [List.map_append]
            refine SlAt.of_owns hown2 (by simp) (by intro r hr; rcases List.mem_append.1 hr with hr | hr; obtain ⟨y, _, rfl⟩ := List.mem_map.1 hr; rfl; simp at hr; subst hr; rfl) (fun b hb => ?_)
            rcases hl2 with e | e
            · exact hfr' b (e ▸ hb)
            · rw [e] at hb; have := hS'.size; simp at hb this; omega
          exact ⟨rfl, rfl, va, vc, ⟨hfin, hB2⟩, forget _ rfl⟩
      rintro e ⟨T, Df⟩ W3 ⟨rfl, hd, xsa2, xsc2, ⟨hxs3, hbel3⟩, u, hT⟩
      simp only at hd hT
      subst hd hT
      show Exit.then _ _ _ _ _
      go_wp2_with fail
      rw [HXL.out, HN.out] at hxs3
      simp only [HN.out]
      go_loopw [117] (fun i2 wr => ∃ (q : Nat) (K2 : Nat → Tag), i2 = .int .i64 q ∧ L2 Kr i wo S { s with last := lsn, follows := D.1 } xl N xsa2 xsc2 q K2 (.slice ta rows.length tc) rows D.2 wr) (fun i2 _ => N - (intOf i2).toNat)
      case atStart => exact ⟨0, _, rfl, L2.start hrep1 hbel3 hxs3 hrow1 hrel1⟩
      case round =>
        obtain ⟨q, K2, rfl, hL⟩ := hrel
        have hq := hL.le
        by_cases hlt : q < N
        · obtain ⟨tv', M', qv', tr', qr', G', hR⟩ := hL.rep
          obtain ⟨a', cap', he, _, _, ⟨h0, _⟩ | ⟨xb, xo, rfl, hxi, hxbl⟩⟩ := SlAt.open hL.xs
          · rw [List.map_eq_nil_iff] at h0; have := HXN.out; rw [h0] at this; simp at this; omega
          simp only [Value.slice.injEq] at he
          obtain ⟨rfl, he1, he2⟩ := he
          clear he1 he2
          have hX : SlAt wr (Imm K2) 1 (.slice (some ⟨xb, xo, none⟩) N xsc2) (xl.map cInt) := hL.xs
          have hc := hX.cell (i := q) (j := 0) (x := .int .i64 (nth xl 0 q)) (by simp; have := HXN.out; omega) (by rw [nth_map cInt xl 0 [] (by have := HXN.out; omega)]; rfl)
          simp only [Nat.mul_one, Nat.add_zero] at hc
          obtain ⟨w', hrun, hmap, hg, hsz⟩ := hR.map.drop (P := Try.prog) (t := 68) (x := nth xl 0 q) Try.underlying68 Try.underlying3 0
          obtain ⟨uc, uf, ul⟩ := bfacts hR.blk
          have hL' := hL.next hi HXN.out hlt hR hmap hg
          generalize nth xl 0 q = y at *
          clear hmap hX hL hR
          go_wp2_with (at_delete; refine wpList_drop rfl _ _ _ _ rfl M' rfl _ rfl hrun ?_)
          go_roundw
          case measure => simp [intOf]; omega
          case rel => exact ⟨q + 1, K2, by go_num, hL'⟩
        · have hqq : q = N := by omega
          have hfol : (xl.take q).foldl dropX D.1 = left s.follows (⟨5, xid, tab, old, new, xids, note⟩ : Rec) := by
            rw [hqq, ← HXN.out, List.take_length, HDD.out, drained_fst', drop_drop, ← HXL.out]
            exact left_eq s.follows (⟨5, xid, tab, old, new, xids, note⟩ : Rec)
          have hpd : D.2.Perm (merged s.follows (⟨5, xid, tab, old, new, xids, note⟩ : Rec)) := by rw [HDD.out, ← HXL.out]; exact drained_perm s.follows (⟨5, xid, tab, old, new, xids, note⟩ : Rec)
          have hrl := hL.rel.1
          have hs2 : Step Kc i w wr := hSt.trans hK0 (hst1.trans hex1 hL.step)
          have hx2 : Ext Kc K2 w.heap.size := fun b hb => (hL.ext b (by have := hSt.size; have := hst1.size; omega)).trans ((hex1 b (by have := hSt.size; omega)).trans (hK0 b hb))
          have hrep2 : Rep wr K2 i S { s with last := lsn, follows := left s.follows (⟨5, xid, tab, old, new, xids, note⟩ : Rec) } := by rw [← hfol]; exact hL.rep
          have HPD := Lib.hid hpd
          have HRL := Lib.hid hrl
          have hrow2 := hL.row
          have hrel2 := hL.rel
          obtain ⟨tv', M', qv', tr', qr', G', hR⟩ := hrep2
          obtain ⟨uc, uf, ul⟩ := bfacts hR.blk
          clear hqq hfol hpd hrl hrep1 hst1 hex1 hrow1 hrel1 hbel3 hxs3 hboxl hxsl hL
          by_cases hz : rows = []
          · subst hz
            have htold : told s lsn (⟨5, xid, tab, old, new, xids, note⟩ : Rec) = [] := by
              unfold told
              rw [if_pos (.inl (by have h1 := HPD.out.length_eq; have h2 := HRL.out; simp at h2; rw [← h2] at h1; exact List.eq_nil_of_length_eq_zero h1.symm))]
            have HT := Lib.hid htold
            clear htold hrow2 hrel2
            go_wp2
            first | refine bodyPost_ret (v := .tuple #[]) (by simp [results, Try.results12, go_sem]) rfl ?_ | refine bodyPost_end (v := .tuple #[]) (by simp [results, Try.results12, go_sem]) rfl ?_
            exact ⟨rfl, K2, hx2, hs2, by rw [HT.out, List.append_nil]; exact ⟨_, _, _, _, _, _, hR⟩⟩
          have hnz : ((rows.length : Int) == 0) = false := by
            have := List.length_pos_iff.2 hz
            simp; exact hz
          by_cases hla : lsn ≤ s.acked
          · have htold : told s lsn (⟨5, xid, tab, old, new, xids, note⟩ : Rec) = [] := by unfold told; rw [if_pos (.inr hla)]
            have HT := Lib.hid htold
            clear htold hrow2 hrel2
            go_wp2
            first | refine bodyPost_ret (v := .tuple #[]) (by simp [results, Try.results12, go_sem]) rfl ?_ | refine bodyPost_end (v := .tuple #[]) (by simp [results, Try.results12, go_sem]) rfl ?_
            exact ⟨rfl, K2, hx2, hs2, by rw [HT.out, List.append_nil]; exact ⟨_, _, _, _, _, _, hR⟩⟩
          obtain ⟨g, rfl, hgK, hgl⟩ : ∃ g, ta = some ⟨g, 0, none⟩ ∧ K2 g = (0, 1, 0) ∧ g < wr.heap.size := by
            obtain ⟨a', c', he, _, _, ⟨h0, _⟩ | ⟨g, h1, h2, h3⟩⟩ := hrow2.open
            · exact absurd h0 hz
            · simp at he; exact ⟨g, he.1.trans h1, h2, h3⟩
          go_wp2_with fail
          refine (sort_calls (P := Imm K2) hrow2.owns rfl hrow2.len hrel2 hrn).mono ?_
          rintro e w4 ⟨rfl, rows', ts', hp, hso, hn', hk', hown', hrel', hg'⟩
          have hI1 : ¬ ((fun c : Tag => c = (0, 1, 0)) (0, 0, 0)) := by simp
          have hC1 : ∀ b, b < wr.heap.size → ¬ (K2 b = (0, 1, 0)) → w4.heap[b]? = wr.heap[b]? := fun b hb hn => hg'.block b hb (fun e => hn (by simp at e; rw [e]; exact hgK))
          have hR4 := hR.go (K' := K2) (C := fun c => c = (0, 1, 0)) hg'.size (fun _ _ => rfl) hC1 hI1 (fun r x e => hi (congrArg Prod.fst e))
          have hrel4 : Rel₂ (TurnRow w4 (Imm K2)) [] dTurn rows' ts' := hrel'.imp fun _ _ h => framed_turn.go (C := fun c => c = (0, 1, 0)) h hg'.size (fun _ _ => rfl) hC1 hI1
          have hs4 : Step Kc i w w4 := hs2.grown hg' (fun b hb hl => by simp at hb; subst hb; exfalso; have := hfr1 g rfl; have := hSt.size; omega)
          have hsl4 : SlAt w4 (fun _ => True) 6 (.slice (some ⟨g, 0, none⟩) rows'.length tc) rows' := by
            rw [hn'] at hown'
            exact SlAt.of_owns hown' rfl hk' (fun _ _ => trivial)
          have hm : ts' = merged s.follows (⟨5, xid, tab, old, new, xids, note⟩ : Rec) := merged_of hinv (by rw [show ((⟨5, xid, tab, old, new, xids, note⟩ : Rec)).xids ++ [((⟨5, xid, tab, old, new, xids, note⟩ : Rec)).xid] = xl from HXL.out, ← HDD.out]; exact hp) hso
          have hpos : 0 < rows'.length := by rw [← hn']; exact List.length_pos_iff.2 hz
          have hlt' := hrel4.1
          have htold : told s lsn (⟨5, xid, tab, old, new, xids, note⟩ : Rec) = [⟨(nth ts' dTurn 0).lsn, ⟨lsn, ts'.map (·.ch)⟩⟩] := by
            unfold told
            rw [← hm, if_neg (by rintro (h | h); exact absurd (show rows'.length = 0 by rw [hlt', h]; rfl) (by omega); omega)]
          have HT := Lib.hid htold
          have hcells : ∀ j, j < rows'.length → ∃ k1 t1 a1 n1 c1 a2 n2 c2 a3 n3 c3, nth rows' [] j = [.int .i64 (nth ts' dTurn j).lsn, .int .i64 k1, .string t1, .slice a1 n1 c1, .slice a2 n2 c2, .slice a3 n3 c3] ∧ ChangeRow w4 (Imm K2) [.int .i64 k1, .string t1, .slice a1 n1 c1, .slice a2 n2 c2, .slice a3 n3 c3] (nth ts' dTurn j).ch := by
            intro j hj
            obtain ⟨rc, h1, a1, n1, c1, a2, n2, c2, a3, n3, c3, h2, h3⟩ := hrel4.2 j (by omega)
            subst h2
            exact ⟨_, _, _, _, _, _, _, _, _, _, _, h1, _, _, _, _, _, _, _, _, _, rfl, h3⟩
          obtain ⟨k1, t1, a1, n1, c1, a2, n2, c2, a3, n3, c3, hrow0, _⟩ := hcells 0 hpos
          have c00 : w4.cell? ⟨g, 0, none⟩ = some (.int .i64 (nth ts' dTurn 0).lsn) := by have := hsl4.cell (i := 0) (j := 0) hpos (by rw [hrow0]; rfl); simpa using this
          have HM := Lib.hid hm
          have HL' := Lib.hid hlt'
          have HC := Lib.hid hcells
          have HN' := Lib.hid hn'
          have hgl4 := Nat.lt_of_lt_of_le hgl hg'.size
          have hrn' : rows'.length ≤ 1000000 := by omega
          clear hm hlt' htold hcells hrow0 hp hso hrow2 hrel2 hrel' hR uc uf ul hown'
          simp only [hn'] at *
          generalize hf0 : (nth ts' dTurn 0).lsn = f0 at *
          clear hf0
          go_wp2_with fail
          go_loopw [149] (fun i3 wr => ∃ (j : Nat) (na : Option Addr) (nc : Nat), i3 = .int .i64 j ∧ L3 w4 f0 lsn rows' j na nc wr) (fun i3 _ => rows'.length - (intOf i3).toNat)
          case atStart => exact ⟨0, none, 0, rfl, Nat.zero_le _, heap_alloc_new w4 _, World.ownsRow_nil _ _ _ _, by simp [Value.ownBlock], ⟨rfl, rfl, rfl, Nat.le_refl _, fun _ _ _ => rfl⟩⟩
          case round =>
            obtain ⟨j, na, nc, rfl, hL⟩ := hrel
            have hjl := hL.le
            have hgr := hL.grown
            have hgs := hgr.size
            simp only [World.size_alloc] at hgs
            by_cases hlt : j < rows'.length
            · obtain ⟨k1, t1, a1, n1, c1, a2, n2, c2, a3, n3, c3, hrow, _⟩ := HC.out j hlt
              have hcell := fun m v hv => (World.cell?_of_block ((hgr.block g (by simp; omega) (by simp; omega)).trans (Below.heap_alloc w4 _ g hgl4))).trans (hsl4.cell (i := j) (j := m) (x := v) hlt hv)
              have e0 := hcell 0 _ (by rw [hrow]; rfl)
              have e1 := hcell 1 _ (by rw [hrow]; rfl)
              have e2 := hcell 2 _ (by rw [hrow]; rfl)
              have e3 := hcell 3 _ (by rw [hrow]; rfl)
              have e4 := hcell 4 _ (by rw [hrow]; rfl)
              have e5 := hcell 5 _ (by rw [hrow]; rfl)
              simp only [Nat.zero_add, Nat.add_zero] at e0 e1 e2 e3 e4 e5
              generalize (nth ts' dTurn j).lsn = lj at *
              have htk : rows'.take (j + 1) = rows'.take j ++ [nth rows' [] j] := take_succ_nth rows' [] hlt
              have HTK := Lib.hid htk
              have HRW := Lib.hid hrow
              have hown := hL.own
              have hblk3 := hL.blk
              obtain ⟨dc, df, dl⟩ := bfacts hblk3
              clear htk hrow hcell
              have hx1 := slat_new (w := wr.alloc (.cells #[.int .i64 lj, .int .i64 k1, .string t1, .slice a1 n1 c1, .slice a2 n2 c2, .slice a3 n3 c3] 78)) (e := 48) (cs := #[.int .i64 k1, .string t1, .slice a1 n1 c1, .slice a2 n2 c2, .slice a3 n3 c3]) (k := 5) (m := 1) [[.int .i64 k1, .string t1, .slice a1 n1 c1, .slice a2 n2 c2, .slice a3 n3 c3]] rfl (by simp) rfl (by simp)
              simp only [World.size_alloc] at hx1
              have hne : Value.ownBlock (.slice na j nc) ≠ some w4.heap.size := fun e => by have := hL.fresh _ e; omega
              have HF3 := Lib.hid hL.fresh
              have HG3 := Lib.hid hgr
              have hrl2 : ((rows'.take j).map List.tail).length = j := by simp; omega
              have HRL2 := Lib.hid hrl2
              clear hL hgr hrl2
              go_wp2_with (at_builtin; go_must (refine wpList_app (rows' := [[.int .i64 k1, .string t1, .slice a1 n1 c1, .slice a2 n2 c2, .slice a3 n3 c3]]) rfl _ _ _ rfl elem_changes rfl ((hown.alloc _).alloc _) rfl hx1 (by simp [Value.oneCell']) (by show j + 1 ≤ 9223372036854775807; omega) (by show (j + 1) * 96 ≤ 140737488355328; omega) ?_; intro v2 w2 hown2 hg2 _ hl2; obtain ⟨sa, sn, rfl⟩ := owns_open hown2; change Value.ownBlock (.slice sa (j + 1) sn) = _ ∨ Value.ownBlock (.slice sa (j + 1) sn) = _ at hl2; have hD2 := (hg2.block w4.heap.size (by simp; omega) (fun e => hne e.symm)).trans (Below.blk (below_two wr _ _) hblk3); obtain ⟨sc, sf, sl⟩ := bfacts hD2))
              go_roundw
              case measure => simp [intOf]; omega
              case rel =>
                have hn2 : Value.ownBlock (.slice sa (j + 1) sn) ≠ some w4.heap.size := by
                  rcases hl2 with e | e
                  · rw [e]; exact hne
                  · rw [e]; simp; omega
                refine ⟨j + 1, sa, sn, by go_num, by omega, (blk_set hD2 2 _).trans rfl, ?_, ?_, ?_⟩
                · rw [HTK.out, List.map_append, HRW.out]
                  exact hown2.kept (grown_set w2 ⟨w4.heap.size, 2, none⟩ _) (.inr hn2)
                · intro b hb
                  rcases hl2 with e | e
                  · exact HF3.out b (e ▸ hb)
                  · rw [e] at hb; simp at hb; omega
                · refine (World.grownBy.andThen (World.grownBy.andThen (World.grownBy.andThen HG3.out (grown_of_below (below_two wr _ _)) (by simp)) hg2 ?_) (grown_set w2 ⟨w4.heap.size, 2, none⟩ _) (fun j e => .inr e))
                  intro k e
                  exact .inl (by have := HF3.out k e; simpa using this)
            · have hjj : j = rows'.length := by omega
              subst hjj
              obtain ⟨hb5, hK5, hdone⟩ := hL.end hk' hrel4
              have hR5 := hR4.go (K' := fun b => if b < w4.heap.size then K2 b else (0, 0, 0)) (C := fun _ => False) hb5.size hK5 (fun b hl _ => hb5.block b hl) (fun h => h) (fun _ _ h => h)
              have hqlen : qr'.length ≤ 999999 := by have h1 := hR4.queue.1; have h2 := hfit.queue; have h3 := hfit.le; simp only at h1; omega
              obtain ⟨qa, qc, rfl, hq1, hq2, hq3⟩ := hR5.qrow.open
              have hblk5 : wr.heap[S]? = some (.cells #[.string s.name, .int .i64 s.acked, .int .i64 lsn, tv', .map (some M'), .slice qa qr'.length qc] 70 (0, 0)) := hR5.blk
              have hD5 : wr.heap[w4.heap.size]? = some (.cells #[.int .i64 f0, .int .i64 lsn, .slice na rows'.length nc] 72 (0, 0)) := hL.blk
              clear hL hR4 hsl4 hrel4 c00
              go_wp2_with fail
              have hb6 : Below wr.heap.size wr ((wr.alloc (.cells #[.int .i64 f0, .int .i64 lsn, .slice na rows'.length nc] 72 (0, 0))).drew) := ((Below.refl _ wr).alloc (Nat.le_refl _) (.cells #[.int .i64 f0, .int .i64 lsn, .slice na rows'.length nc] 72 (0, 0))).drew
              refine wp_region_plan (fun W => W.heap[S]? = some (.cells #[.string s.name, .int .i64 s.acked, .int .i64 lsn, tv', .map (some M'), .slice qa qr'.length qc] 70 (0, 0)) ∧ W.heap[w4.heap.size]? = some (.cells #[.int .i64 f0, .int .i64 lsn, .slice na rows'.length nc] 72 (0, 0))) [10] [(0, 0), (1, 0), (2, 0), (3, 0), (4, 1), (5, 1), (6, 2), (7, 2), (8, 0), (9, 0), (10, 2)] (by kernel_rfl) (by kernel_rfl) (fun _ _ d _ _ h => by first | exact absurd h.1 (fun h => by cases h) | (cases d <;> exact h)) ?_
              have hS : wr.drew.heap[S]? = some (.cells #[.string s.name, .int .i64 s.acked, .int .i64 lsn, tv', .map (some M'), .slice qa qr'.length qc] 70 (0, 0)) ∧ wr.drew.heap[w4.heap.size]? = some (.cells #[.int .i64 f0, .int .i64 lsn, .slice na rows'.length nc] 72 (0, 0)) := ⟨hblk5, hD5⟩
              repeat (first | (refine plan_soft rfl rfl rfl ?_; intro K hK; go_big_quiet_op; go_big_quiet_on) | (refine plan_load hS rfl rfl rfl rfl (fun w' hw' => loadVar_one (by kernel_rfl) (((bfacts hw'.1).1 _).trans rfl)) ?_; (try simp only [Act.put, List.setIfInBounds_toArray, List.set_cons_zero, List.set_cons_succ])) | (refine plan_load hS rfl rfl rfl rfl (fun w' hw' => run_loadVar_row _ _ _ _ _ _ _ hw'.2 Try.underlying72 rfl (by kernel_rfl)) ?_; (try simp only [Act.put, List.setIfInBounds_toArray, List.set_cons_zero, List.set_cons_succ])))
              refine plan_do rfl rfl ?_; intro K hK
              go_wp2_with fail
              have hx1 := (slat_new (w := wr) (e := 72) (cs := #[.int .i64 f0, .int .i64 lsn, .slice na rows'.length nc]) (k := 3) (m := 1) [[.int .i64 f0, .int .i64 lsn, .slice na rows'.length nc]] rfl (by simp) rfl (by simp)).frame ((Same.refl _ _).drew)
              have ho1 := owns_below hR5.qrow.owns hb6
              have hS' : ((wr.alloc (.cells #[.int .i64 f0, .int .i64 lsn, .slice na rows'.length nc] 72 (0, 0))).drew).heap[S]? = some (.cells #[.string s.name, .int .i64 s.acked, .int .i64 lsn, tv', .map (some M'), .slice qa qr'.length qc] 70 (0, 0)) ∧ ((wr.alloc (.cells #[.int .i64 f0, .int .i64 lsn, .slice na rows'.length nc] 72 (0, 0))).drew).heap[w4.heap.size]? = some (.cells #[.int .i64 f0, .int .i64 lsn, .slice na rows'.length nc] 72 (0, 0)) := ⟨Below.blk hb6 hblk5, Below.blk hb6 hD5⟩
              refine ⟨fun _ _ => hS', ?_⟩
              clear hS
              (try simp only [Act.put, List.setIfInBounds_toArray, List.set_cons_zero, List.set_cons_succ])
              refine plan_do rfl rfl ?_; intro K hK
              refine oper_app1 _ _ _ rfl elem_dones (.slice qa qr'.length qc) rfl ho1 (.slice (some ⟨wr.heap.size, 0, none⟩) 1 1) rfl [.int .i64 f0, .int .i64 lsn, .slice na rows'.length nc] hx1 (by simp [Value.oneCell']) (by omega) (by omega) ?_
              intro va vc w6 hown6 hg6 hl6
              have hneS : Value.ownBlock (.slice qa qr'.length qc) ≠ some S := fun e => by have := hR5.qrow.col S e; rw [hR5.kS] at this; simp at this
              have hneD : Value.ownBlock (.slice qa qr'.length qc) ≠ some w4.heap.size := fun e => by have := hR5.qrow.col _ e; simp at this
              have hS2 : w6.heap[S]? = some (.cells #[.string s.name, .int .i64 s.acked, .int .i64 lsn, tv', .map (some M'), .slice qa qr'.length qc] 70 (0, 0)) ∧ w6.heap[w4.heap.size]? = some (.cells #[.int .i64 f0, .int .i64 lsn, .slice na rows'.length nc] 72 (0, 0)) :=
                ⟨(hg6.block S (lt_of_block hS'.1) (fun e => hneS e.symm)).trans hS'.1, (hg6.block _ (lt_of_block hS'.2) (fun e => hneD e.symm)).trans hS'.2⟩
              refine hK _ _ ⟨fun _ _ => hS2, ?_⟩
              clear hK K
              obtain ⟨fc2, ff2, fl2⟩ := bfacts hS2.1
              (try simp only [Act.put, List.setIfInBounds_toArray, List.set_cons_zero, List.set_cons_succ])
              repeat (first | (refine plan_soft rfl rfl rfl ?_; intro K hK; go_big_quiet_op; go_big_quiet_on))
              (refine plan_do rfl rfl ?_; intro K hK; go_wp2_with fail; refine ⟨fun h => absurd h (by decide), ?_⟩)
              (try simp only [Act.put, List.setIfInBounds_toArray, List.set_cons_zero, List.set_cons_succ])
              simp only [planWp]
              obtain ⟨K', e1, e2, e3⟩ := hR5.enq hi hb6 hdone rfl hown6 hg6 hl6
              first | refine bodyPost_ret (v := .tuple #[]) (by simp [results, Try.results12, go_sem]) rfl ?_ | refine bodyPost_end (v := .tuple #[]) (by simp [results, Try.results12, go_sem]) rfl ?_
              have hz4 := hs4.size
              have hz5 := hb5.size
              refine ⟨rfl, K', fun b hb => (e1 b (by omega)).trans ((hK5 b (by omega)).trans (hx2 b hb)), hs4.trans hx2 ((Step.of_below hb5).trans hK5 e2), ?_⟩
              rw [HT.out]
              exact e3
end Go.Proofs.Ytplafccjgbeojaa
