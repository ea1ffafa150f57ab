/- slot.Slot.Feed: aborts -/
import Derived.Test.YtplafccjgbeojaaSrt
open Go Go.RowKit
namespace Go.Proofs.Ytplafccjgbeojaa
open Pm

/-- 'delete(m, k)' whose run is known -/
theorem wpList_drop {P : Program} {w w' : World} {ops : Array Oper} {rest : List Oper} {o : Oper} {a : Act} {Q : Exit → Act → World → Prop} (hg : o.guard = none) (m x : Operand) (t k : TypeId) (hop : o.op = Op.call { callee := Callee.builtin Builtin.delete, args := #[m, x], argTypes := #[t, k] })
    (M : Nat) (hm : a.eval m = .map (some M)) (key : Value) (hx : a.eval x = key) (hrun : (Builtin.delete_ #[t, k] o.type #[.map (some M), key]).run P w = .ok (.tuple #[]) w') (h : wpList P ops Q rest (a.put o.dst (.tuple #[])) w') : wpList P ops Q (o :: rest) a w := by
  refine wpList_plain hg fun K' hK' => ?_
  unfold Oper.wp
  simp [execOp, hop, resolve, invoke, builtin, hm, hx, hrun, Result.andThen]
  exact hK' _ _ h

theorem owned_of {w w1 : World} {e k : Nat} {v' : Value} {o : Obj} {rows : List (List Value)} (hown : w1.ownsRow 0 e k v' (0 + rows.length) ([] ++ rows).flatten)
    (hg : (w.alloc o).grownBy w1 (Value.ownBlock (.slice (some ⟨w.heap.size, 0, none⟩) 0 0)))
    (hl : v'.ownBlock = Value.ownBlock (.slice (some ⟨w.heap.size, 0, none⟩) 0 0) ∨ v'.ownBlock = some (w.alloc o).heap.size) :
    ∃ a c, v' = .slice a rows.length c ∧ w1.ownsRow 0 e k (.slice a rows.length c) rows.length rows.flatten ∧ (∀ b, Value.ownBlock (.slice a rows.length c) = some b → w.heap.size ≤ b) ∧ Below w.heap.size w w1 := by
  rw [Nat.zero_add, List.nil_append] at hown
  obtain ⟨a', c', rfl⟩ := owns_open hown
  refine ⟨a', c', rfl, hown, ?_, ((Below.refl _ w).alloc (Nat.le_refl _) o).grown hg (by simp) (fun j hj => by simp [Value.ownBlock] at hj; omega)⟩
  intro b hb
  rcases hl with hl | hl
  · rw [hl] at hb; simp [Value.ownBlock] at hb; subst hb; exact Nat.le_refl _
  · rw [hl] at hb; simp at hb; subst hb; exact Nat.le_succ _

set_option maxRecDepth 100000 in
set_option maxHeartbeats 400000 in
theorem clone_ints_own (v : Value) (l : List Int) (P : Nat → Prop) (w : World) (h : IntsAt w P v l) (hb : l.length ≤ 1000000) :
    Calls Try.prog 29 #[v] w fun e w' => ∃ a c, e = .returned (.slice a (l.map cInt).length c) ∧ w'.ownsRow 0 3 1 (.slice a (l.map cInt).length c) (l.map cInt).length (l.map cInt).flatten ∧
      (∀ b, Value.ownBlock (.slice a (l.map cInt).length c) = some b → w.heap.size ≤ b) ∧ Below w.heap.size w w' := by
  unfold IntsAt at h
  obtain ⟨a, cap, rfl, h1, h2, ⟨h3, rfl, rfl⟩ | ⟨b, off, rfl, h4, _⟩⟩ := h.open
  · have : l = [] := by simpa using h3
    subst this
    go_enter Try.func29, Try.ntmps29
    go_wp2
    go_ret
    exact ⟨_, _, rfl, World.ownsRow_nil _ _ _ _, by simp [Value.ownBlock], Below.refl _ _⟩
  · have h63 : 0 + (l.map cInt).length ≤ 9223372036854775807 := by simp; omega
    have hby : (0 + (l.map cInt).length) * 8 ≤ 140737488355328 := by simp; omega
    have hone := one_cInt l
    generalize l.map cInt = rows at *
    clear hb
    go_enter Try.func29, Try.ntmps29
    go_wp2_with (at_builtin; refine wpList_app rfl _ _ _ rfl elem_ints rfl (owns_made0 _ _ _) rfl (h.frame ((Same.refl _ _).alloc _)) hone h63 hby ?_; intro v' w1 hown hg _ hl)
    go_ret
    obtain ⟨a', c', rfl, q1, q2, q3⟩ := owned_of hown hg hl
    exact ⟨_, _, rfl, q1, q2, q3⟩

theorem clone_ints_o (v : Value) (l : List Int) (P : Nat → Prop) (w : World) (h : IntsAt w P v l) (hb : l.length ≤ 1000000) :
    Calls Try.prog 29 #[v] w fun e w' => ∃ a c, e = .returned (.slice a l.length c) ∧ w'.ownsRow 0 3 1 (.slice a l.length c) l.length (l.map cInt).flatten ∧
      (∀ b, Value.ownBlock (.slice a l.length c) = some b → w.heap.size ≤ b) ∧ Below w.heap.size w w' :=
  (clone_ints_own v l P w h hb).mono (by
    rintro e w' ⟨a, c, rfl, h⟩
    rw [List.length_map] at h
    exact ⟨a, c, by rw [List.length_map], h⟩)

set_option maxRecDepth 100000 in
set_option maxHeartbeats 1600000 in
theorem feed_abort (Kc : Nat → Tag) (i S : Nat) (s : Slot) (n : Nat) (lsn : Int) (r : List Value) (x : Rec) (w : World) (h : Rep w Kc i S s) (hi : i ≠ 0) (hr : RecAt w (Imm Kc) r x) (hfit : Fits s n) (hl : s.last < lsn)
    (hk : x.kind = 6) (hb : x.xids.length ≤ 1000) :
    Calls Try.prog 12 #[.pointer (some ⟨S, 0, none⟩), .int .i64 lsn, .agg r.toArray] w fun e w' => e = .returned (.tuple #[]) ∧ ∃ K', Ext Kc K' w.heap.size ∧ Step Kc i w w' ∧ Rep w' K' i S { s with last := lsn, follows := left s.follows x } := by
  rw [← left_eq]
  have hr0 := hr
  obtain ⟨oa, on, oc, wa, wn, wc, ed, xa, xn, xc, rfl, hro, hrw, hrx⟩ := hr
  obtain ⟨tv, M, qv, tr, qr, G, h⟩ := h
  have hsl := lt_of_block h.blk
  have hSne : S ≠ w.heap.size := by omega
  have hBo : Below w.heap.size w (w.alloc (.cells #[.int .i64 x.kind, .int .i64 x.xid, .int .i64 x.table, .slice oa on oc, .slice wa wn wc, ed, .slice xa xn xc, .string x.note] 35 (0, 0))) := (Below.refl _ _).alloc (Nat.le_refl _) _
  obtain ⟨K0, hK0, hBc⟩ : ∃ K0 : Nat → Tag, Ext Kc K0 w.heap.size ∧ K0 w.heap.size = (0, 0, 0) := ⟨fun b => if b < w.heap.size then Kc b else (0, 0, 0), fun b hb => by simp [hb], by simp⟩
  have hSt : Step Kc i w ((w.setCell ⟨S, 2, none⟩ (.int .i64 lsn)).alloc (.cells #[.int .i64 x.kind, .int .i64 x.xid, .int .i64 x.table, .slice oa on oc, .slice wa wn wc, ed, .slice xa xn xc, .string x.note] 35 (0, 0))) := ((Step.refl Kc i w).set (fun _ => by rw [h.kS]) _).alloc _
  have hblk := Below.blk hBo h.blk
  have h1 : Rep ((w.setCell ⟨S, 2, none⟩ (.int .i64 lsn)).alloc (.cells #[.int .i64 x.kind, .int .i64 x.xid, .int .i64 x.table, .slice oa on oc, .slice wa wn wc, ed, .slice xa xn xc, .string x.note] 35 (0, 0))) K0 i S { s with last := lsn } :=
    ⟨tv, M, qv, tr, qr, G, h.head (s' := { s with last := lsn }) hSt.size hK0 hi (fun b hbl hbk => (Below.heap_alloc _ _ _ (by simpa using hbl)).trans (Below.heap_setCell _ _ _ _ (fun e => hbk (by rw [← h.kS]; exact congrArg Kc e)))) ((Below.heap_alloc _ _ _ (by simpa using hsl)).trans ((blk_set h.blk 2 _).trans rfl)) rfl rfl rfl⟩
  have hbox : ((w.setCell ⟨S, 2, none⟩ (.int .i64 lsn)).alloc (.cells #[.int .i64 x.kind, .int .i64 x.xid, .int .i64 x.table, .slice oa on oc, .slice wa wn wc, ed, .slice xa xn xc, .string x.note] 35 (0, 0))).heap[w.heap.size]? = some (.cells #[.int .i64 x.kind, .int .i64 x.xid, .int .i64 x.table, .slice oa on oc, .slice wa wn wc, ed, .slice xa xn xc, .string x.note] 35 (0, 0)) := by have := heap_alloc_new (w.setCell ⟨S, 2, none⟩ (.int .i64 lsn)) (.cells #[.int .i64 x.kind, .int .i64 x.xid, .int .i64 x.table, .slice oa on oc, .slice wa wn wc, ed, .slice xa xn xc, .string x.note] 35 (0, 0)); simpa using this
  have hrec := hr0.go (C := fun c => c.1 = i) hSt.size hK0 hSt.block (fun e => hi e.symm)
  have hxs : IntsAt ((w.setCell ⟨S, 2, none⟩ (.int .i64 lsn)).alloc (.cells #[.int .i64 x.kind, .int .i64 x.xid, .int .i64 x.table, .slice oa on oc, .slice wa wn wc, ed, .slice xa xn xc, .string x.note] 35 (0, 0))) (Imm K0) (.slice xa xn xc) x.xids := by
    obtain ⟨_, _, _, _, _, _, _, _, _, _, he, _, _, h4⟩ := hrec
    simp only [List.cons.injEq, Value.slice.injEq] at he
    obtain ⟨_, _, _, _, _, _, ⟨rfl, rfl, rfl⟩, _⟩ := he
    exact h4
  clear h hr0 hro hrw hrx hrec
  obtain ⟨kd, xid, tab, old, new, xids, note⟩ := x
  simp only at *
  subst hk
  obtain ⟨sc, sf, sl⟩ := bfacts hblk
  obtain ⟨bc, bf, bl⟩ := bfacts hbox
  go_enter Try.func12, Try.ntmps12
  go_wp2_with fail
  generalize hW1 : (w.setCell ⟨S, 2, none⟩ (.int .i64 lsn)).alloc _ = W1 at *
  refine Code.wp_mono (Q := fun e a' w' => e = .normal ∧ a'.defers = [] ∧ ∃ xsa xsc, (IntsAt w' (fun b => W1.heap.size ≤ b) (.slice xsa (xids.length + 1) xsc) (xids ++ [xid]) ∧ Below W1.heap.size W1 w') ∧
      ∃ u : Nat → Value, a'.tmps = (.pointer (some ⟨S, 0, none⟩) :: .int .i64 lsn :: u 2 :: u 3 :: u 4 :: .pointer (some ⟨w.heap.size, 0, none⟩) :: .slice none 0 0 :: u 7 :: u 8 :: u 9 :: u 10 :: u 11 :: u 12 :: u 13 :: u 14 :: u 15 :: u 16 :: u 17 :: u 18 :: u 19 :: u 20 :: u 21 :: u 22 :: u 23 :: u 24 :: u 25 :: u 26 :: u 27 :: u 28 :: u 29 :: u 30 :: u 31 :: u 32 :: u 33 :: u 34 :: u 35 :: u 36 :: u 37 :: u 38 :: u 39 :: u 40 :: u 41 :: u 42 :: u 43 :: u 44 :: u 45 :: u 46 :: u 47 :: u 48 :: u 49 :: u 50 :: u 51 :: u 52 :: u 53 :: u 54 :: u 55 :: u 56 :: u 57 :: u 58 :: u 59 :: u 60 :: u 61 :: u 62 :: u 63 :: u 64 :: u 65 :: u 66 :: u 67 :: u 68 :: u 69 :: u 70 :: u 71 :: u 72 :: u 73 :: u 74 :: u 75 :: u 76 :: u 77 :: u 78 :: u 79 :: u 80 :: u 81 :: u 82 :: u 83 :: u 84 :: u 85 :: u 86 :: u 87 :: u 88 :: u 89 :: u 90 :: u 91 :: u 92 :: u 93 :: u 94 :: u 95 :: u 96 :: u 97 :: u 98 :: u 99 :: u 100 :: u 101 :: u 102 :: u 103 :: u 104 :: u 105 :: u 106 :: u 107 :: u 108 :: u 109 :: u 110 :: u 111 :: u 112 :: u 113 :: u 114 :: .slice xsa (xids.length + 1) xsc :: .int .i64 (xids.length + 1 : Nat) :: .int .i64 0 :: u 118 :: u 119 :: u 120 :: u 121 :: u 122 :: u 123 :: u 124 :: u 125 :: u 126 :: u 127 :: u 128 :: u 129 :: u 130 :: u 131 :: u 132 :: u 133 :: u 134 :: u 135 :: u 136 :: u 137 :: u 138 :: u 139 :: u 140 :: u 141 :: u 142 :: u 143 :: u 144 :: u 145 :: u 146 :: u 147 :: u 148 :: u 149 :: u 150 :: u 151 :: u 152 :: u 153 :: u 154 :: u 155 :: u 156 :: u 157 :: u 158 :: u 159 :: u 160 :: u 161 :: u 162 :: u 163 :: u 164 :: u 165 :: u 166 :: u 167 :: u 168 :: u 169 :: u 170 :: u 171 :: u 172 :: []).toArray) ?_ ?_
  case refine_2 =>
    refine wp_region_tree (fun W' => Below W1.heap.size W1 W') [] (.seq [(0, 0), (1, 1), (3, 0), (4, 1), (8, 0)] (.fork 2 (.seq [(5, 2), (6, 2), (7, 0)] .done) 5 (.seq [(2, 2), (6, 2), (7, 0)] .done))) (by kernel_rfl) (by kernel_rfl) (fun _ _ d _ _ h => by first | exact absurd h.1 (fun h => by cases h) | (cases d <;> exact h)) (PT.start ?_)
    have hS : Below W1.heap.size W1 W1.drew := (Below.refl _ _).drew
    repeat (first | (refine plan_soft rfl rfl rfl ?_; intro K hK; go_big_quiet_op; go_big_quiet_on) | (refine plan_load hS rfl rfl rfl rfl (fun w' hw' => loadVar_one (by kernel_rfl) (((bfacts (Below.blk hw' hbox)).1 _).trans rfl)) ?_; (try simp only [Act.put, List.setIfInBounds_toArray, List.set_cons_zero, List.set_cons_succ])))
    have hxf : ∀ W, Below W1.heap.size W1 W → IntsAt W (Imm K0) (.slice xa xn xc) xids := fun W h => hxs.frame (Same.of_below h)
    have hlen1 : (xids.map cInt).length = xids.length := by simp
    (refine pt_fork rfl rfl rfl rfl ?_ ?_ <;> intro K hK)
    · go_wp2_with fail
      refine (clone_ints_o _ xids (Imm K0) _ (hxf _ hS) (by omega)).mono ?_
      rintro e w1 ⟨ca, cc, rfl, hown, hfr, hb1⟩
      have hS' := Below.step hS (Nat.le_refl _) hb1
      refine hK _ _ ⟨fun _ _ => hS', PT.start ?_⟩
      have hfr' : ∀ b, Value.ownBlock (.slice ca xids.length cc) = some b → W1.heap.size ≤ b := hfr
      clear hK K hS hb1 hfr
      (try simp only [Act.put, List.setIfInBounds_toArray, List.set_cons_zero, List.set_cons_succ])
      refine plan_do rfl rfl ?_; intro K hK
      go_wp2_with fail
      have hS2 := hS'.alloc hS'.size (.cells #[.int .i64 xid] 3 (0, 0))
      refine ⟨fun _ _ => hS2, ?_⟩
      have hx1 := slat_new (w := w1) (e := 3) (cs := #[.int .i64 xid]) (k := 1) (m := 1) [[.int .i64 xid]] rfl (by simp) rfl (by simp)
      (try simp only [Act.put, List.setIfInBounds_toArray, List.set_cons_zero, List.set_cons_succ])
      refine plan_do rfl rfl ?_; intro K hK
      refine oper_app1 _ _ _ rfl elem_ints (.slice ca xids.length cc) rfl (hown.alloc _) (.slice (some ⟨w1.heap.size, 0, none⟩) 1 1) rfl [.int .i64 xid] hx1 (by simp [Value.oneCell']) (by omega) (by omega) ?_
      intro va vc w2 hown2 hg2 hl2
      have hB2 : Below W1.heap.size W1 w2 := hS2.grown hg2 (by have := hS2.size; exact this) (fun b hb => hfr' b hb)
      refine hK _ _ ⟨fun _ _ => hB2, ?_⟩
      (try simp only [Act.put, List.setIfInBounds_toArray, List.set_cons_zero, List.set_cons_succ])
      repeat (first | (refine plan_soft rfl rfl rfl ?_; intro K hK; go_big_quiet_op; go_big_quiet_on))
      have hfin : IntsAt w2 (fun b => W1.heap.size ≤ b) (.slice va (xids.length + 1) vc) (xids ++ [xid]) := by
        unfold IntsAt
        rw [List.map_append]
        refine SlAt.of_owns hown2 (by simp) (by intro r hr; rcases List.mem_append.1 hr with hr | hr; obtain ⟨y, _, rfl⟩ := List.mem_map.1 hr; rfl; simp at hr; subst hr; rfl) (fun b hb => ?_)
        rcases hl2 with e | e
        · exact hfr' b (e ▸ hb)
        · rw [e] at hb; have := hS2.size; simp at hb this; omega
      exact ⟨rfl, rfl, va, vc, ⟨hfin, hB2⟩, forget _ rfl⟩
    · go_wp2_with fail
      have hS2 := hS.alloc hS.size (.cells #[.int .i64 xid] 3 (0, 0))
      refine ⟨fun _ _ => hS2, PT.start ?_⟩
      have hx0 := slat_new (w := W1.drew) (e := 3) (cs := #[.int .i64 xid]) (k := 1) (m := 1) [[.int .i64 xid]] rfl (by simp) rfl (by simp)
      simp only [World.size_drew] at hx0
      (try simp only [Act.put, List.setIfInBounds_toArray, List.set_cons_zero, List.set_cons_succ])
      refine plan_do rfl rfl ?_; intro K hK
      go_wp2_with fail
      refine (clone_ints_o _ xids (Imm K0) _ (hxf _ hS2) (by omega)).mono ?_
      rintro e w1 ⟨ca, cc, rfl, hown, hfr, hb1⟩
      have hS' := Below.step hS2 (Nat.le_refl _) hb1
      refine hK _ _ ⟨fun _ _ => hS', ?_⟩
      have hfr' : ∀ b, Value.ownBlock (.slice ca xids.length cc) = some b → W1.heap.size ≤ b := fun b hb => by have := hfr b hb; simp at this; omega
      have hx1 := hx0.frame (Same.of_below hb1)
      clear hK K hS hb1 hfr
      (try simp only [Act.put, List.setIfInBounds_toArray, List.set_cons_zero, List.set_cons_succ])
      refine plan_do rfl rfl ?_; intro K hK
      refine oper_app1 _ _ _ rfl elem_ints (.slice ca xids.length cc) rfl hown (.slice (some ⟨W1.heap.size, 0, none⟩) 1 1) rfl [.int .i64 xid] hx1 (by simp [Value.oneCell']) (by omega) (by omega) ?_
      intro va vc w2 hown2 hg2 hl2
      have hB2 : Below W1.heap.size W1 w2 := hS'.grown hg2 (by have := hS'.size; exact this) (fun b hb => hfr' b hb)
      refine hK _ _ ⟨fun _ _ => hB2, ?_⟩
      (try simp only [Act.put, List.setIfInBounds_toArray, List.set_cons_zero, List.set_cons_succ])
      repeat (first | (refine plan_soft rfl rfl rfl ?_; intro K hK; go_big_quiet_op; go_big_quiet_on))
      have hfin : IntsAt w2 (fun b => W1.heap.size ≤ b) (.slice va (xids.length + 1) vc) (xids ++ [xid]) := by
        unfold IntsAt
        rw [List.map_append]
        refine SlAt.of_owns hown2 (by simp) (by intro r hr; rcases List.mem_append.1 hr with hr | hr; obtain ⟨y, _, rfl⟩ := List.mem_map.1 hr; rfl; simp at hr; subst hr; rfl) (fun b hb => ?_)
        rcases hl2 with e | e
        · exact hfr' b (e ▸ hb)
        · rw [e] at hb; have := hS'.size; simp at hb this; omega
      exact ⟨rfl, rfl, va, vc, ⟨hfin, hB2⟩, forget _ rfl⟩
  rintro e ⟨T, Df⟩ W2 ⟨rfl, hd, xsa, xsc, ⟨hxs2, hbel2⟩, u, hT⟩
  simp only at hd hT
  subst hd hT
  show Exit.then _ _ _ _ _
  go_wp2_with fail
  generalize hxl : xids ++ [xid] = xl at *
  have hxn : xl.length = xids.length + 1 := by rw [← hxl]; simp
  have hxb : xids.length ≤ 1000 := hb
  obtain ⟨N, hN⟩ : ∃ N, xids.length + 1 = N := ⟨_, rfl⟩
  have hNb : N ≤ 1001 := by omega
  have hN0 : 0 < N := by omega
  simp only [hN] at *
  clear hxs hblk hbox bc bf bl sc sf sl
  go_loopw [117] (fun i2 wr => ∃ (q : Nat) (Kr : Nat → Tag), q ≤ N ∧ i2 = .int .i64 q ∧ Ext K0 Kr W1.heap.size ∧ Step K0 i W1 wr ∧ Rep wr Kr i S { s with last := lsn, follows := (xl.take q).foldl dropX s.follows } ∧ IntsAt wr (Imm Kr) (.slice xsa (N) xsc) xl) (fun i2 _ => N - (intOf i2).toNat)
  case atStart =>
    refine ⟨0, fun b => if b < W1.heap.size then K0 b else (0, 0, 0), Nat.zero_le _, rfl, fun b hb => by simp [hb], Step.of_below hbel2, h1.below hbel2 (fun b hb => by simp [hb]), hxs2.mono fun b hb _ => ?_⟩
    have : ¬ b < W1.heap.size := by omega
    simp [Imm, this]
  case round =>
    obtain ⟨q, Kr, hq, rfl, hKr, hstep, hR, hX⟩ := hrel
    by_cases hlt : q < N
    · obtain ⟨tv', M', qv', tr', qr', G', hR⟩ := hR
      obtain ⟨a', cap', he, _, _, ⟨h0, _⟩ | ⟨xb, xo, rfl, hxi, hxbl⟩⟩ := SlAt.open hX
      · rw [List.map_eq_nil_iff] at h0; rw [h0] at hxn; simp at hxn; omega
      simp only [Value.slice.injEq] at he
      obtain ⟨rfl, he1, he2⟩ := he
      clear he1 he2
      have hc := SlAt.cell hX (i := q) (j := 0) (x := .int .i64 (nth xl 0 q)) (by simp; omega) (by rw [nth_map cInt xl 0 [] (by omega)]; rfl)
      simp only [Nat.mul_one, Nat.add_zero] at hc
      have htk : xl.take (q + 1) = xl.take q ++ [nth xl 0 q] := take_succ_nth xl 0 (by omega)
      have HT := Lib.hid htk
      obtain ⟨w', hrun, hmap, hg, hsz⟩ := hR.map.drop (P := Try.prog) (t := 68) (x := nth xl 0 q) Try.underlying68 Try.underlying3 0
      obtain ⟨uc, uf, ul⟩ := bfacts hR.blk
      have hKs := hstep.size
      have hst' : Step K0 i W1 w' := hstep.grown hg (fun b hb hl => by simp at hb; subst hb; rw [← hKr _ hl, hR.kM])
      have hR' := hR.del (nth xl 0 q) (by omega) (fun _ _ => rfl) (fun b hl hn => hg.block b hl (fun e => hn (by simp at e; rw [e]; exact hR.kM))) hmap
      have hX' : IntsAt w' (Imm Kr) (.slice (some ⟨xb, xo, none⟩) (N) xsc) xl := hX.frame (Same.grown hg (fun b hb e => by simp at e; rw [e] at hb; have := hR.kM; rw [hb] at this; simp at this))
      generalize nth xl 0 q = y at *
      clear htk hmap
      go_wp2_with (at_delete; refine wpList_drop rfl _ _ _ _ rfl M' rfl _ rfl hrun ?_)
      go_roundw
      case measure => simp [intOf]; omega
      case rel =>
        refine ⟨q + 1, Kr, by omega, by go_num, hKr, hst', ?_, hX'⟩
        rw [HT.out, List.foldl_append]
        exact ⟨_, _, _, _, _, _, hR'⟩
    · have hqq : q = N := by omega
      subst hqq
      rw [← hxn, List.take_length] at hR
      have hR2 := hR
      obtain ⟨tv', M', qv', tr', qr', G', hR3⟩ := hR2
      obtain ⟨uc, uf, ul⟩ := bfacts hR3.blk
      clear hR3
      go_wp2
      first | refine bodyPost_ret (v := .tuple #[]) (by simp [results, Try.results12, go_sem]) rfl ?_ | refine bodyPost_end (v := .tuple #[]) (by simp [results, Try.results12, go_sem]) rfl ?_
      have hz1 := hSt.size
      exact ⟨rfl, Kr, fun b hb => (hKr b (by omega)).trans (hK0 b hb), hSt.trans hK0 hstep, hR⟩
end Go.Proofs.Ytplafccjgbeojaa
