/- slices.IndexFunc and slices.DeleteFunc at queued transactions; slot.Ack -/
import Derived.Test.YtplafccjgbeojaaFeed4
open Go Go.RowKit
namespace Go.Proofs.Ytplafccjgbeojaa
open Pm

set_option maxHeartbeats 400000 in
theorem ackp_calls (a b : Int) (x : Option Addr) (n c : Nat) (cb : Nat) (lsn : Int) (w : World) (hc : w.cell? ⟨cb, 0, none⟩ = some (.int .i64 lsn)) (hcb : cb < w.heap.size) :
    Calls Try.prog 43 #[.agg #[.int .i64 a, .int .i64 b, .slice x n c], .pointer (some ⟨cb, 0, none⟩)] w fun e w' => e = .returned (.bool (decide (b ≤ lsn))) ∧ Below w.heap.size w w' := by
  go_enter Try.func43, Try.ntmps43
  go_wp2
  go_ret
  exact ⟨rfl, by (repeat (first | with_reducible exact Below.refl _ _ | with_reducible assumption | (with_reducible refine Below.setCell ?_ (by first | (simp; done) | (simp; omega)) _) | (with_reducible refine Below.alloc ?_ (by first | (simp; done) | (simp; omega)) _) | with_reducible refine Below.drew ?_))⟩

def upTo (lsn : Int) (d : Done) : Bool := decide (d.told.lsn ≤ lsn)

/-- the place of the first hit -/
def FirstHit {α : Type} (p : α → Bool) (d : α) (l : List α) (idx : Int) : Prop := (idx = -1 ∧ ∀ j, j < l.length → p (nth l d j) = false) ∨ ∃ k : Nat, k < l.length ∧ idx = k ∧ p (nth l d k) = true ∧ ∀ j, j < k → p (nth l d j) = false

set_option maxRecDepth 100000 in
set_option maxHeartbeats 800000 in
theorem index_done (v : Value) (rows : List (List Value)) (q : List Done) (P : Nat → Prop) (cb : Nat) (lsn : Int) (w : World) (hs : SlAt w P 3 v rows) (hr : Rel₂ (DoneRow w P) [] dDone rows q) (hc : w.cell? ⟨cb, 0, none⟩ = some (.int .i64 lsn)) (hcb : cb < w.heap.size) (hl : rows.length ≤ 1000000) :
    Calls Try.prog 64 #[v, .func (.func 43) #[] #[.pointer (some ⟨cb, 0, none⟩)]] w fun e w' => ∃ idx : Int, e = .returned (.int .i64 idx) ∧ FirstHit (upTo lsn) dDone q idx ∧ Below w.heap.size w w' := by
  obtain ⟨a, cap, rfl, h1, h2, h3⟩ := hs.open
  have hlen := hr.1
  have HL := Lib.hid hlen
  clear hlen
  go_enter Try.func64, Try.ntmps64
  go_wp2_with fail
  go_loopw [8] (fun i wr => ∃ k : Nat, k ≤ rows.length ∧ i = .int .i64 k ∧ Below w.heap.size w wr ∧ Go.RowKit.Hid (∀ j, j < k → upTo lsn (nth q dDone j) = false)) (fun i _ => rows.length - (intOf i).toNat)
  case atStart => exact ⟨0, Nat.zero_le _, rfl, Below.refl _ _, Lib.hid (by intro j hj; omega)⟩
  case round =>
    obtain ⟨k, hk, rfl, hbel, hno⟩ := hrel
    by_cases hlt : k < rows.length
    · obtain ⟨b, off, rfl, hPb, hbl⟩ : ∃ b off, a = some ⟨b, off, none⟩ ∧ P b ∧ b < w.heap.size := by
        rcases h3 with ⟨rfl, _⟩ | h3
        · simp at hlt
        · exact h3
      obtain ⟨rt, hrow, xa, xn, xc, rfl, _⟩ := hr.2 k (by rw [← HL.out]; exact hlt)
      have hcell := fun j x hx => (Same.of_below hbel).cell (P := fun _ => True) trivial (hs.cell (i := k) (j := j) (x := x) hlt hx)
      have e0 := hcell 0 _ (by rw [hrow]; rfl)
      have e1 := hcell 1 _ (by rw [hrow]; rfl)
      have e2 := hcell 2 _ (by rw [hrow]; rfl)
      simp only [Nat.add_zero] at e0
      have hcb' : cb < wr.heap.size := Nat.lt_of_lt_of_le hcb hbel.size
      have hc' : wr.cell? ⟨cb, 0, none⟩ = some (.int .i64 lsn) := (Same.of_below hbel).cell (P := fun _ => True) trivial hc
      have HP := Lib.hid (show upTo lsn (nth q dDone k) = decide ((nth q dDone k).told.lsn ≤ lsn) from rfl)
      generalize (nth q dDone k).told.lsn = dl at *
      generalize (nth q dDone k).first = df at *
      clear hrow hcell hr hs
      go_wp2_with fail
      refine (ackp_calls df dl xa xn xc cb lsn _ hc' hcb').mono ?_
      rintro e w1 ⟨rfl, hb1⟩
      have hB := Below.step hbel (Nat.le_refl _) hb1
      by_cases hle : dl ≤ lsn
      · have hd : decide (dl ≤ lsn) = true := by simpa using hle
        clear e0 e1 e2 hc hc'
        go_wp2
        go_ret
        exact ⟨k, rfl, .inr ⟨k, by rw [← HL.out]; exact hlt, rfl, by rw [HP.out]; exact hd, hno.out⟩, hB⟩
      · have hd : decide (dl ≤ lsn) = false := by simpa using hle
        clear e0 e1 e2 hc'
        go_wp2
        go_roundw
        case measure => simp [intOf]; omega
        case rel =>
          refine ⟨k + 1, by omega, by go_num, hB, Lib.hid fun j hj => ?_⟩
          by_cases e : j = k
          · subst e; rw [HP.out]; exact hd
          · exact hno.out j (by omega)
    · have hkk : k = rows.length := by omega
      subst hkk
      clear hr hs h3
      go_wp2
      go_ret
      exact ⟨-1, rfl, .inl ⟨rfl, fun j hj => hno.out j (by rw [HL.out]; exact hj)⟩, hbel⟩

theorem Rel₂.zip {α β : Type} {R : α → β → Prop} {da : α} {db : β} {xs : List α} {ys : List β} (h : Rel₂ R da db xs ys) : ∃ z : List (α × β), z.map (·.1) = xs ∧ z.map (·.2) = ys ∧ ∀ p ∈ z, R p.1 p.2 := by
  refine ⟨xs.zip ys, List.map_fst_zip (Nat.le_of_eq h.1), List.map_snd_zip (Nat.le_of_eq h.1.symm), fun p hp => ?_⟩
  obtain ⟨i, hi, rfl⟩ := List.mem_iff_getElem.1 hp
  have hi' : i < xs.length ∧ i < ys.length := by simpa [List.length_zip, Nat.lt_min] using hi
  have := h.2 i hi'.2
  rw [nth_eq hi'.1, nth_eq hi'.2] at this
  simpa using this

theorem Rel₂.of_zip {α β : Type} {R : α → β → Prop} {da : α} {db : β} {z : List (α × β)} (h : ∀ p ∈ z, R p.1 p.2) : Rel₂ R da db (z.map (·.1)) (z.map (·.2)) := by
  refine ⟨by simp, fun i hi => ?_⟩
  have hi' : i < z.length := by simpa using hi
  rw [nth_eq (by simpa using hi'), nth_eq hi]
  simp only [List.getElem_map]
  exact h _ (List.getElem_mem hi')

/-- what 'slices.DeleteFunc' has done to the row so far -/
structure DelInv (cap : Nat) (z : List (List Value × Done)) (p : Done → Bool) (i j : Nat) (cur : Array Value) : Prop where
  le : j ≤ z.length
  cnt : i = ((z.take j).filter fun x => !p x.2).length
  ij : i ≤ j
  size : cur.size = cap * 3
  low : ∀ t m, t < i → m < 3 → cur[t * 3 + m]? = (nth (((z.take j).filter fun x => !p x.2).map (·.1)) [] t)[m]?
  high : ∀ t m, j ≤ t → t < z.length → m < 3 → cur[t * 3 + m]? = (nth (z.map (·.1)) [] t)[m]?

section
variable {cap : Nat} {z : List (List Value × Done)} {p : Done → Bool} {i j : Nat} {cur : Array Value}
theorem DelInv.skip (h : DelInv cap z p i j cur) (hj : j < z.length) (hp : p (nth (z.map (·.2)) dDone j) = true) : DelInv cap z p i (j + 1) cur := by
  have e : (z.take (j + 1)).filter (fun x => !p x.2) = (z.take j).filter fun x => !p x.2 := by
    rw [List.take_succ_eq_append_getElem hj, List.filter_append]
    rw [nth_eq (by simpa using hj)] at hp
    simp only [List.getElem_map] at hp
    simp [hp]
  refine ⟨hj, by rw [e]; exact h.cnt, by have := h.ij; omega, h.size, fun t m ht hm => by rw [e]; exact h.low t m ht hm, fun t m ht => h.high t m (by omega)⟩

theorem DelInv.keep (h : DelInv cap z p i j cur) (hj : j < z.length) (hc : z.length ≤ cap) (hp : p (nth (z.map (·.2)) dDone j) = false) {a b c : Value} (hr : nth (z.map (·.1)) [] j = [a, b, c]) :
    DelInv cap z p (i + 1) (j + 1) (((cur.setIfInBounds (i * 3) a).setIfInBounds (i * 3 + 1) b).setIfInBounds (i * 3 + 2) c) := by
  have e : (z.take (j + 1)).filter (fun x => !p x.2) = ((z.take j).filter fun x => !p x.2) ++ [z[j]] := by
    rw [List.take_succ_eq_append_getElem hj, List.filter_append]
    rw [nth_eq (by simpa using hj)] at hp
    simp only [List.getElem_map] at hp
    simp [hp]
  have hij := h.ij
  have hs := h.size
  have hz : (z[j]).1 = [a, b, c] := by rw [← hr, nth_eq (by simpa using hj)]; simp
  have hcs : j * 3 + 3 ≤ cap * 3 := by omega
  refine ⟨hj, by rw [e, List.length_append, ← h.cnt]; rfl, by omega, by simp [hs], fun t m ht hm => ?_, fun t m ht hz hm => ?_⟩
  · rw [e, List.map_append]
    have hl : (((z.take j).filter fun x => !p x.2).map (·.1)).length = i := by rw [List.length_map]; exact h.cnt.symm
    by_cases hti : t < i
    · rw [nth_append_left (by omega), ← h.low t m hti hm]
      rw [Array.getElem?_setIfInBounds_ne (by omega), Array.getElem?_setIfInBounds_ne (by omega), Array.getElem?_setIfInBounds_ne (by omega)]
    · have : t = i := by omega
      subst this
      rw [nth_append_right (by omega), hl, Nat.sub_self]
      simp only [List.map_cons, List.map_nil, nth, List.getD_cons_zero, hz]
      match m, hm with
      | 0, _ => rw [Array.getElem?_setIfInBounds_ne (by omega), Array.getElem?_setIfInBounds_ne (by omega), Nat.add_zero, Array.getElem?_setIfInBounds_self_of_lt (by omega)]; rfl
      | 1, _ => rw [Array.getElem?_setIfInBounds_ne (by omega), Array.getElem?_setIfInBounds_self_of_lt (by simp; omega)]; rfl
      | 2, _ => rw [Array.getElem?_setIfInBounds_self_of_lt (by simp; omega)]; rfl
  · rw [Array.getElem?_setIfInBounds_ne (by omega), Array.getElem?_setIfInBounds_ne (by omega), Array.getElem?_setIfInBounds_ne (by omega)]
    exact h.high t m (by omega) hz hm
end

theorem drop_all {α β : Type} (p : β → Bool) {z : List (α × β)} {d : β} (h : ∀ j, j < (z.map (·.2)).length → p (nth (z.map (·.2)) d j) = false) : z.filter (fun x => !p x.2) = z := by
  refine List.filter_eq_self.2 fun x hx => ?_
  obtain ⟨i, hi, rfl⟩ := List.mem_iff_getElem.1 hx
  have := h i (by simpa using hi)
  rw [nth_eq (by simpa using hi)] at this
  simp only [List.getElem_map] at this
  simp [this]

theorem take_all {α β : Type} (p : β → Bool) {z : List (α × β)} {d : β} {k : Nat} (hk : k ≤ z.length) (h : ∀ j, j < k → p (nth (z.map (·.2)) d j) = false) : (z.take k).filter (fun x => !p x.2) = z.take k := by
  refine List.filter_eq_self.2 fun x hx => ?_
  obtain ⟨i, hi, rfl⟩ := List.mem_iff_getElem.1 hx
  have hi' : i < k := by simp at hi; omega
  have := h i hi'
  rw [nth_eq (by simp; omega)] at this
  simp only [List.getElem_map] at this
  simp [this]

theorem row_cells {w : World} {e : TypeId} {g n cap : Nat} {rows : List (List Value)} (hown : w.ownsRow 0 e 3 (.slice (some ⟨g, 0, none⟩) n cap) n rows.flatten) (hn : n = rows.length) (hk : ∀ r ∈ rows, r.length = 3) :
    ∃ cur, w.heap[g]? = some (.cells cur e (0, 0)) ∧ n ≤ cap ∧ cap ≤ maxLen ∧ cur.size = cap * 3 ∧ ∀ t m, t < rows.length → m < 3 → cur[t * 3 + m]? = (nth rows [] t)[m]? := by
  rcases hown.2 with ⟨h, _⟩ | ⟨g', cap', cur, he, _, hg, hnc, hcm, hcs, htake⟩
  · simp at h
  simp only [Value.slice.injEq, Option.some.injEq, Addr.mk.injEq, and_true, true_and] at he
  obtain ⟨rfl, rfl⟩ := he
  refine ⟨cur, hg, hnc, hcm, hcs, fun t m ht hm => ?_⟩
  have hlt : t * 3 + m < n * 3 := by omega
  have hc := hown.cellAt _ hlt
  rw [(bfacts hg).1, flatten_get rows hk t m ht hm] at hc
  exact hc

theorem run_clear {P : Program} {w : World} {t e : TypeId} {g o n c k cap : Nat} {cur : Array Value} {zv : Value} (ht : P.underlying t = some (.slice e)) (hz : (zeroValue e).run P w = .ok zv w) (hzs : zv.cells.size = k) (hz1 : ∀ v ∈ (Builtin.zeroCells zv.cells n).toList, v.oneCell' = true)
    (hg : w.heap[g]? = some (.cells cur cap (0, 0))) (hl : o + n * k ≤ cur.size) (hn : 0 < n) (ty : TypeId) :
    ∃ cur', cur'.size = cur.size ∧ (∀ x, x < o → cur'[x]? = cur[x]?) ∧ (Builtin.clear_ #[t] ty #[.slice (some ⟨g, o, none⟩) n c]).run P w = .ok (.tuple #[]) (w.setRow g cur') := by
  have hlen : (Builtin.zeroCells zv.cells n).toList.length = n * k := by unfold Builtin.zeroCells; simp [hzs]
  have hst := run_storeCells_at (P := P) g o cap (Builtin.zeroCells zv.cells n).toList 0 cur w hg (by rw [hlen]; exact hl) hz1
  rw [Nat.add_zero] at hst
  generalize hZ : (Builtin.zeroCells zv.cells n).toList = Z at *
  refine ⟨(cur.toList.take o ++ Z ++ cur.toList.drop (o + Z.length)).toArray, ?_, fun x hx => ?_, ?_⟩
  · simp; omega
  · have hxl : x < cur.toList.length := by simp; omega
    rw [← Array.getElem?_toList, ← Array.getElem?_toList, List.append_assoc, List.getElem?_append_left (by simp; omega), List.getElem?_take_of_lt hx]
  · obtain ⟨m, rfl⟩ : ∃ m, n = m + 1 := ⟨n - 1, by omega⟩
    simp [Builtin.clear_, run_underlying ht, hz, hZ, hst, Result.andThen]

theorem zeroCells_mem {z : Array Value} {n : Nat} {v : Value} (h0 : 0 < z.size) (h : v ∈ (Builtin.zeroCells z n).toList) : v ∈ z.toList := by
  simp [Builtin.zeroCells] at h
  obtain ⟨m, _, rfl⟩ := h
  have : m % z.size < z.size := Nat.mod_lt _ h0
  rw [getElem!_pos z _ this]
  simp

theorem grown_setRow (w : World) (g : Nat) (cs : Array Value) : w.grownBy (w.setRow g cs) (some g) := ⟨rfl, rfl, rfl, by simp, fun k _ hk => setRow_other w g k cs (fun e => hk (by rw [e]))⟩

set_option maxRecDepth 100000 in
set_option maxHeartbeats 1600000 in
theorem delete_done (g n cap : Nat) (rows : List (List Value)) (q : List Done) (P : Nat → Prop) (cb : Nat) (lsn : Int) (w : World) (hown : w.ownsRow 0 72 3 (.slice (some ⟨g, 0, none⟩) n cap) n rows.flatten) (hn : n = rows.length) (hk : ∀ r ∈ rows, r.length = 3)
    (hr : Rel₂ (DoneRow w P) [] dDone rows q) (hc : w.cell? ⟨cb, 0, none⟩ = some (.int .i64 lsn)) (hcb : cb < w.heap.size) (hcg : cb ≠ g) (hl : n ≤ 1000000) :
    Calls Try.prog 42 #[.slice (some ⟨g, 0, none⟩) n cap, .func (.func 43) #[] #[.pointer (some ⟨cb, 0, none⟩)]] w fun e w' => ∃ rows' : List (List Value), e = .returned (.slice (some ⟨g, 0, none⟩) rows'.length cap) ∧
      w'.ownsRow 0 72 3 (.slice (some ⟨g, 0, none⟩) rows'.length cap) rows'.length rows'.flatten ∧ (∀ r ∈ rows', r.length = 3) ∧ Rel₂ (DoneRow w P) [] dDone rows' (q.filter fun d => !upTo lsn d) ∧ w.grownBy w' (some g) := by
  subst hn
  obtain ⟨cur0, hg0, hnc, hcm, hsz, hcells⟩ := row_cells hown rfl hk
  have hidx := fun W (hW : Below w.heap.size w W) => index_done (.slice (some ⟨g, 0, none⟩) rows.length cap) rows q (fun b => P b ∨ b = g) cb lsn W (((SlAt.of_owns hown rfl hk (P := fun b => P b ∨ b = g) (fun b hb => .inr (by simp [Value.ownBlock] at hb; exact hb.symm))).frame (Same.of_below hW)))
    (hr.imp fun _ _ h => (framed_done.frame (framed_done.mono h fun b hb _ => .inl hb) (Same.of_below hW))) ((Same.of_below hW).cell (P := fun _ => True) trivial hc) (Nat.lt_of_lt_of_le hcb hW.size) hl
  obtain ⟨z, rfl, rfl, hz⟩ := hr.zip
  have hzl : (z.map (·.1)).length = z.length := by simp
  have hfil : (z.map (·.2)).filter (fun d => !upTo lsn d) = (z.filter fun x => !upTo lsn x.2).map (·.2) := by rw [List.filter_map]; rfl
  have HFIL := Lib.hid hfil
  have hzr : ∀ r ∈ (z.filter fun x => !upTo lsn x.2).map (·.1), r.length = 3 := fun r hr => by
    obtain ⟨x, hx, rfl⟩ := List.mem_map.1 hr
    exact hk _ (List.mem_map.2 ⟨x, (List.mem_filter.1 hx).1, rfl⟩)
  have hrel' : Rel₂ (DoneRow w P) [] dDone ((z.filter fun x => !upTo lsn x.2).map (·.1)) ((z.filter fun x => !upTo lsn x.2).map (·.2)) := Rel₂.of_zip fun x hx => hz x (List.mem_filter.1 hx).1
  simp only [hzl] at *
  have hcells' : ∀ t m, t < z.length → m < 3 → cur0[t * 3 + m]? = (nth (z.map (·.1)) [] t)[m]? := hcells
  have hgl := lt_of_block hg0
  have HH := Lib.hid hcells'
  have HZR := Lib.hid hzr
  have HRW := Lib.hid (show ∀ j, j < z.length → ∃ da db xa xn xc, nth (z.map (·.1)) [] j = [.int .i64 da, .int .i64 db, .slice xa xn xc] ∧ upTo lsn (nth (z.map (·.2)) dDone j) = decide (db ≤ lsn) from fun j hj => by
    obtain ⟨rt, hrow, xa, xn, xc, rfl, _⟩ := hr.2 j (by simpa using hj)
    exact ⟨_, _, xa, xn, xc, hrow, rfl⟩)
  have hmax : cap ≤ 9223372036854775807 := by unfold maxLen at hcm; exact hcm
  clear hcells hcells' hfil hzr hr hk hcm hz
  go_enter Try.func42, Try.ntmps42
  go_wp2_with fail
  refine (hidx _ (Below.refl _ _)).mono ?_
  rintro e w1 ⟨idx, rfl, hhit, hb1⟩
  rcases hhit with ⟨rfl, hall⟩ | ⟨k0, hk0, rfl, htrue, hall⟩
  · have hkeep := drop_all (upTo lsn) hall
    rw [hkeep] at hrel' HFIL
    have HK := Lib.hid hkeep
    clear hkeep hidx hall
    have hm1 : ((-1 : Int) == -1) = true := rfl
    go_wp2
    go_ret
    refine ⟨z.map (·.1), by rw [List.length_map]; rfl, ?_, fun r hr => HZR.out r (by rw [HK.out]; exact hr), by rw [HFIL.out]; exact hrel', ⟨hb1.os, hb1.tape, hb1.output, hb1.size, fun k hk _ => hb1.block k hk⟩⟩
    rw [List.length_map]
    exact owns_below hown hb1
  · have hk0' : k0 < z.length := by simpa using hk0
    have htk := take_all (upTo lsn) (z := z) (d := dDone) (k := k0) (by omega) hall
    have hI0 : DelInv cap z (upTo lsn) k0 (k0 + 1) cur0 := by
      refine DelInv.skip ⟨by omega, by rw [htk, List.length_take]; omega, Nat.le_refl _, hsz, fun t m ht hm => ?_, fun t m _ ht hm => HH.out t m ht hm⟩ hk0' htrue
      rw [htk, HH.out t m (by omega) hm, nth_eq (by simp; omega), nth_eq (by rw [List.length_map, List.length_take]; omega)]
      simp
    have hg1 : w1.heap[g]? = some (.cells cur0 72 (0, 0)) := Below.blk hb1 hg0
    have hgr1 : w.grownBy w1 (some g) := ⟨hb1.os, hb1.tape, hb1.output, hb1.size, fun k hk _ => hb1.block k hk⟩
    have hne1 : ((k0 : Int) == -1) = false := by simp
    clear htk hall htrue hidx hk0 hb1
    go_wp2_with fail
    go_loopw [5, 6] (fun s5 s6 wr => ∃ (i j : Nat) (cur : Array Value), s5 = .int .i64 i ∧ s6 = .int .i64 j ∧ DelInv cap z (upTo lsn) i j cur ∧ i < j ∧ wr.heap[g]? = some (.cells cur 72 (0, 0)) ∧ w.grownBy wr (some g)) (fun _ s6 _ => z.length - (intOf s6).toNat)
    case atStart => exact ⟨k0, k0 + 1, cur0, rfl, by go_num, hI0, by omega, hg1, hgr1⟩
    case round =>
      obtain ⟨i, j, cur, rfl, rfl, hI, hij, hgc, hgr⟩ := hrel
      have hjl := hI.le
      have hcs := hI.size
      by_cases hlt : j < z.length
      · obtain ⟨da, db, xa, xn, xc, hrow, hup⟩ := HRW.out j hlt
        obtain ⟨gc, gf, gl⟩ := bfacts hgc
        have e0 : wr.cell? ⟨g, j * 3, none⟩ = some (.int .i64 da) := by rw [gc, show j * 3 = j * 3 + 0 from rfl, hI.high j 0 (Nat.le_refl _) hlt (by omega), hrow]; rfl
        have e1 : wr.cell? ⟨g, j * 3 + 1, none⟩ = some (.int .i64 db) := by rw [gc, hI.high j 1 (Nat.le_refl _) hlt (by omega), hrow]; rfl
        have e2 : wr.cell? ⟨g, j * 3 + 2, none⟩ = some (.slice xa xn xc) := by rw [gc, hI.high j 2 (Nat.le_refl _) hlt (by omega), hrow]; rfl
        have hcl : cb < (wr.alloc (.cells #[.int .i64 da, .int .i64 db, .slice xa xn xc] 72 (0, 0))).heap.size := by have := hgr.size; simp; omega
        have hcc : (wr.alloc (.cells #[.int .i64 da, .int .i64 db, .slice xa xn xc] 72 (0, 0))).cell? ⟨cb, 0, none⟩ = some (.int .i64 lsn) := (World.cell?_of_block ((Below.heap_alloc wr _ cb (by have := hgr.size; omega)).trans (hgr.block cb hcb (by simp; exact hcg)))).trans hc
        have HR := Lib.hid hrow
        have HU := Lib.hid hup
        have HC := Lib.hid (And.intro hcc hcl)
        clear hrow hup hcc hcl gc gf
        go_wp2_with fail
        refine (ackp_calls da db xa xn xc cb lsn _ HC.out.1 HC.out.2).mono ?_
        rintro e w2 ⟨rfl, hb2⟩
        have hbx : w2.heap[wr.heap.size]? = some (.cells #[.int .i64 da, .int .i64 db, .slice xa xn xc] 72 (0, 0)) := Below.blk hb2 (heap_alloc_new wr _)
        have hg2 : w2.heap[g]? = some (.cells cur 72 (0, 0)) := (Below.step ((Below.refl _ wr).alloc (Nat.le_refl _) (.cells #[.int .i64 da, .int .i64 db, .slice xa xn xc] 72 (0, 0))) (Nat.le_refl _) hb2).block g (lt_of_block hgc) |>.trans hgc
        have hb2' := Below.step ((Below.refl _ wr).alloc (Nat.le_refl _) (.cells #[.int .i64 da, .int .i64 db, .slice xa xn xc] 72 (0, 0))) (Nat.le_refl _) hb2
        have hgr2 : w.grownBy w2 (some g) := hgr.andThen (grown_of_below hb2') (by simp)
        by_cases hle : db ≤ lsn
        · have hd : decide (db ≤ lsn) = true := by simpa using hle
          have hI' := hI.skip hlt (HU.out.trans hd)
          clear e0 e1 e2 hI hb2 hb2' hgr
          go_wp2
          go_roundw
          case measure => simp [intOf]; omega
          case rel => exact ⟨i, j + 1, cur, rfl, by go_num, hI', by omega, hg2, hgr2⟩
        · have hd : decide (db ≤ lsn) = false := by simpa using hle
          have hI' := hI.keep hlt hnc (HU.out.trans hd) HR.out
          obtain ⟨bc, bf, bl⟩ := bfacts hbx
          obtain ⟨gc2, gf2, gl2⟩ := bfacts hg2
          have s0 : w2.cell? ⟨g, i * 3, none⟩ = some (cur[i * 3]'(by omega)) := by rw [gc2]; exact Array.getElem?_eq_getElem (by omega)
          have s1 : w2.cell? ⟨g, i * 3 + 1, none⟩ = some (cur[i * 3 + 1]'(by omega)) := by rw [gc2]; exact Array.getElem?_eq_getElem (by omega)
          have s2 : w2.cell? ⟨g, i * 3 + 2, none⟩ = some (cur[i * 3 + 2]'(by omega)) := by rw [gc2]; exact Array.getElem?_eq_getElem (by omega)
          generalize cur[i * 3]'(by omega) = o0 at *
          generalize cur[i * 3 + 1]'(by omega) = o1 at *
          generalize cur[i * 3 + 2]'(by omega) = o2 at *
          have HI := Lib.hid hI'
          clear e0 e1 e2 hI hI' hb2 hb2' hgr gc2 hcs
          go_wp2
          go_roundw
          case measure => simp [intOf]; omega
          case rel =>
            refine ⟨i + 1, j + 1, _, by go_num, by go_num, HI.out, by omega, blk_set (blk_set (blk_set hg2 (i * 3) _) (i * 3 + 1) _) (i * 3 + 2) _, ?_⟩
            exact ((hgr2.andThen (grown_set w2 ⟨g, i * 3, none⟩ _) (fun j e => .inr e)).andThen (grown_set _ ⟨g, i * 3 + 1, none⟩ _) (fun j e => .inr e)).andThen (grown_set _ ⟨g, i * 3 + 2, none⟩ _) (fun j e => .inr e)
      · have hjj : j = z.length := by omega
        obtain ⟨cur', hs', hlow', hclr⟩ : ∃ cur' : Array Value, cur'.size = cur.size ∧ (∀ x, x < i * 3 → cur'[x]? = cur[x]?) ∧ ∀ ty, (Builtin.clear_ #[66] ty #[.slice (some ⟨g, i * 3, none⟩) (z.length - i) (cap - i)]).run Try.prog wr = .ok (.tuple #[]) (wr.setRow g cur') := by
          obtain ⟨c', h1, h2, h3⟩ := run_clear (P := Try.prog) (w := wr) (t := 66) (e := 72) (g := g) (o := i * 3) (n := z.length - i) (c := cap - i) (k := 3) (cap := 72) (cur := cur) (zv := .agg #[.int .i64 0, .int .i64 0, .slice none 0 0]) Try.underlying66 (run_zero (by kernel_rfl) _) rfl (fun v hv => by
            have := zeroCells_mem (by decide) hv
            simp [Value.cells] at this
            rcases this with rfl | rfl <;> rfl) hgc (by rw [hcs]; omega) (by omega) 0
          exact ⟨c', h1, h2, fun _ => h3⟩
        subst hjj
        have hfk : (z.take z.length).filter (fun x => !upTo lsn x.2) = z.filter fun x => !upTo lsn x.2 := by rw [List.take_length]
        have hcnt : i = ((z.filter fun x => !upTo lsn x.2).map (·.1)).length := by rw [List.length_map, ← hfk]; exact hI.cnt
        have hlow := hI.low
        rw [hfk] at hlow
        have hgo : (wr.setRow g cur').heap[g]? = some (.cells cur' 72 (0, 0)) := setRow_heap wr g cur cur' _ _ hgc
        have hown' : (wr.setRow g cur').ownsRow 0 72 3 (.slice (some ⟨g, 0, none⟩) i cap) i ((z.filter fun x => !upTo lsn x.2).map (·.1)).flatten :=
          owns_of_cells hgo hcnt (by omega) (by unfold maxLen; omega) (by rw [hs', hcs]) HZR.out (by decide) fun t m ht hm => by rw [hlow' _ (by omega)]; exact hlow t m ht hm
        have HCN := Lib.hid hcnt
        have HOW := Lib.hid hown'
        clear hfk hcnt hlow hgo hown' hI hlow' hs'
        go_wp2
        go_ret
        refine ⟨(z.filter fun x => !upTo lsn x.2).map (·.1), by rw [← HCN.out]; rfl, by rw [← HCN.out]; exact HOW.out, HZR.out, by rw [HFIL.out]; exact hrel', hgr.andThen (grown_setRow _ _ _) (fun k e => .inr e)⟩

theorem delete_nil (cb : Nat) (lsn : Int) (w : World) (hc : w.cell? ⟨cb, 0, none⟩ = some (.int .i64 lsn)) (hcb : cb < w.heap.size) :
    Calls Try.prog 42 #[.slice none 0 0, .func (.func 43) #[] #[.pointer (some ⟨cb, 0, none⟩)]] w fun e w' => e = .returned (.slice none 0 0) ∧ Below w.heap.size w w' := by
  have hidx := index_done (.slice none 0 0) [] [] (fun _ => True) cb lsn w (SlAt.nil _ _ _) Rel₂.nil hc hcb (by simp)
  go_enter Try.func42, Try.ntmps42
  go_wp2_with fail
  refine hidx.mono ?_
  rintro e w1 ⟨idx, rfl, hhit, hb1⟩
  rcases hhit with ⟨rfl, _⟩ | ⟨k0, hk0, _⟩
  · have hm1 : ((-1 : Int) == -1) = true := rfl
    go_wp2
    go_ret
    exact ⟨rfl, hb1⟩
  · simp at hk0

theorem plan_skip1 {P : Program} {Q : Exit → Act → World → Prop} {S : World → Prop} {l : List Oper} {i : Nat} {r : List (Nat × Nat)} {lt : List Nat} {E : Act → World → Prop} {o : Oper} {a : Act} {w : World} (hS : S w) (ho' : l[i]? = some o) (hw : Region.wanted o (yielded l.toArray a.tmps) = false)
    (h : planWp P l.toArray Q S lt E r (a.put o.dst undef) w) : planWp P l.toArray Q S lt E ((i, 1) :: r) a w :=
  ⟨hS, o, undef, (by simpa using ho'), .inr ⟨hw, rfl⟩, h⟩

set_option maxRecDepth 100000 in
set_option maxHeartbeats 1600000 in
theorem ack_bad {K : Nat → Tag} {i S : Nat} {s : Slot} {w : World} (h : Rep w K i S s) (n : Int) (hn : n < s.acked ∨ s.last < n) :
    Calls Try.prog 19 #[.pointer (some ⟨S, 0, none⟩), .int .i64 n] w fun e w' => e = .returned (.int .i64 1) ∧ Below w.heap.size w w' := by
  obtain ⟨tv, M, qv, tr, qr, G, h⟩ := h
  have hblk := Below.blk ((Below.refl _ w).alloc (Nat.le_refl _) (.cells #[.int .i64 n] 3 (0, 0))) h.blk
  have hbox : (w.alloc (.cells #[.int .i64 n] 3 (0, 0))).heap[w.heap.size]? = some (.cells #[.int .i64 n] 3 (0, 0)) := heap_alloc_new w _
  clear h
  by_cases hlt : n < s.acked
  · go_enter Try.func19, Try.ntmps19
    go_wp2_with fail
    refine wp_region_plan (fun W => W.heap[S]? = some (.cells #[.string s.name, .int .i64 s.acked, .int .i64 s.last, tv, .map (some M), qv] 70 (0, 0)) ∧ W.heap[w.heap.size]? = some (.cells #[.int .i64 n] 3 (0, 0))) [] [(0, 1), (1, 0), (2, 0), (3, 0), (4, 1), (5, 0), (6, 0), (7, 1), (8, 0), (9, 0), (10, 0), (11, 1), (12, 0), (13, 0), (14, 0)] (by kernel_rfl) (by kernel_rfl) (fun _ _ d _ _ h => by first | exact absurd h.1 (fun h => by cases h) | (cases d <;> exact h)) ?_
    have hS : (w.alloc (.cells #[.int .i64 n] 3 (0, 0))).drew.heap[S]? = some (.cells #[.string s.name, .int .i64 s.acked, .int .i64 s.last, tv, .map (some M), qv] 70 (0, 0)) ∧ (w.alloc (.cells #[.int .i64 n] 3 (0, 0))).drew.heap[w.heap.size]? = some (.cells #[.int .i64 n] 3 (0, 0)) := ⟨hblk, hbox⟩
    repeat (first | (refine plan_soft rfl rfl rfl ?_; intro K hK; go_big_quiet_op; go_big_quiet_on) | (refine plan_load hS rfl rfl rfl rfl (fun w' hw' => loadVar_one (v := .int .i64 s.acked) (by kernel_rfl) ((bfacts hw'.1).1 1)) ?_; (try simp only [Act.put, List.setIfInBounds_toArray, List.set_cons_zero, List.set_cons_succ])) | (refine plan_load hS rfl rfl rfl rfl (fun w' hw' => loadVar_one (v := .int .i64 s.last) (by kernel_rfl) ((bfacts hw'.1).1 2)) ?_; (try simp only [Act.put, List.setIfInBounds_toArray, List.set_cons_zero, List.set_cons_succ])) | (refine plan_load hS rfl rfl rfl rfl (fun w' hw' => loadVar_one (v := .int .i64 n) (by kernel_rfl) ((bfacts hw'.2).1 0)) ?_; (try simp only [Act.put, List.setIfInBounds_toArray, List.set_cons_zero, List.set_cons_succ])))
    try simp only [hlt, decide_true]
    repeat (first | (refine plan_skip rfl rfl ?_; (try simp only [Act.put, List.setIfInBounds_toArray, List.set_cons_zero, List.set_cons_succ])) | (refine plan_skip1 hS rfl rfl ?_; (try simp only [Act.put, List.setIfInBounds_toArray, List.set_cons_zero, List.set_cons_succ])) | (refine plan_soft rfl rfl rfl ?_; intro K hK; go_big_quiet_op; go_big_quiet_on))
    show Exit.then _ _ _ _ _
    go_wp2
    go_ret
    exact ⟨rfl, by (repeat (first | with_reducible exact Below.refl _ _ | with_reducible assumption | (with_reducible refine Below.setCell ?_ (by first | (simp; done) | (simp; omega)) _) | (with_reducible refine Below.alloc ?_ (by first | (simp; done) | (simp; omega)) _) | with_reducible refine Below.drew ?_))⟩
  · have hgt : s.last < n := by omega
    go_enter Try.func19, Try.ntmps19
    go_wp2_with fail
    refine wp_region_plan (fun W => W.heap[S]? = some (.cells #[.string s.name, .int .i64 s.acked, .int .i64 s.last, tv, .map (some M), qv] 70 (0, 0)) ∧ W.heap[w.heap.size]? = some (.cells #[.int .i64 n] 3 (0, 0))) [] [(0, 1), (1, 0), (2, 0), (3, 0), (4, 1), (5, 0), (6, 0), (7, 1), (8, 0), (9, 0), (10, 0), (11, 1), (12, 0), (13, 0), (14, 0)] (by kernel_rfl) (by kernel_rfl) (fun _ _ d _ _ h => by first | exact absurd h.1 (fun h => by cases h) | (cases d <;> exact h)) ?_
    have hS : (w.alloc (.cells #[.int .i64 n] 3 (0, 0))).drew.heap[S]? = some (.cells #[.string s.name, .int .i64 s.acked, .int .i64 s.last, tv, .map (some M), qv] 70 (0, 0)) ∧ (w.alloc (.cells #[.int .i64 n] 3 (0, 0))).drew.heap[w.heap.size]? = some (.cells #[.int .i64 n] 3 (0, 0)) := ⟨hblk, hbox⟩
    repeat (first | (refine plan_soft rfl rfl rfl ?_; intro K hK; go_big_quiet_op; go_big_quiet_on) | (refine plan_load hS rfl rfl rfl rfl (fun w' hw' => loadVar_one (v := .int .i64 s.acked) (by kernel_rfl) ((bfacts hw'.1).1 1)) ?_; (try simp only [Act.put, List.setIfInBounds_toArray, List.set_cons_zero, List.set_cons_succ])) | (refine plan_load hS rfl rfl rfl rfl (fun w' hw' => loadVar_one (v := .int .i64 s.last) (by kernel_rfl) ((bfacts hw'.1).1 2)) ?_; (try simp only [Act.put, List.setIfInBounds_toArray, List.set_cons_zero, List.set_cons_succ])) | (refine plan_load hS rfl rfl rfl rfl (fun w' hw' => loadVar_one (v := .int .i64 n) (by kernel_rfl) ((bfacts hw'.2).1 0)) ?_; (try simp only [Act.put, List.setIfInBounds_toArray, List.set_cons_zero, List.set_cons_succ])))
    simp only [show decide (n < s.acked) = false from by simpa using hlt]
    repeat (first | (refine plan_soft rfl rfl rfl ?_; intro K hK; go_big_quiet_op; go_big_quiet_on) | (refine plan_load hS rfl rfl rfl rfl (fun w' hw' => loadVar_one (v := .int .i64 s.acked) (by kernel_rfl) ((bfacts hw'.1).1 1)) ?_; (try simp only [Act.put, List.setIfInBounds_toArray, List.set_cons_zero, List.set_cons_succ])) | (refine plan_load hS rfl rfl rfl rfl (fun w' hw' => loadVar_one (v := .int .i64 s.last) (by kernel_rfl) ((bfacts hw'.1).1 2)) ?_; (try simp only [Act.put, List.setIfInBounds_toArray, List.set_cons_zero, List.set_cons_succ])) | (refine plan_load hS rfl rfl rfl rfl (fun w' hw' => loadVar_one (v := .int .i64 n) (by kernel_rfl) ((bfacts hw'.2).1 0)) ?_; (try simp only [Act.put, List.setIfInBounds_toArray, List.set_cons_zero, List.set_cons_succ])))
    try simp only [hgt, decide_true]
    show Exit.then _ _ _ _ _
    go_wp2
    go_ret
    exact ⟨rfl, by (repeat (first | with_reducible exact Below.refl _ _ | with_reducible assumption | (with_reducible refine Below.setCell ?_ (by first | (simp; done) | (simp; omega)) _) | (with_reducible refine Below.alloc ?_ (by first | (simp; done) | (simp; omega)) _) | with_reducible refine Below.drew ?_))⟩

/-- the queue and the confirmed LSN are others -/
theorem RepP.requeue {w w' : World} {K K' : Nat → Tag} {i S : Nat} {s : Slot} {tv : Value} {M : Nat} {qv : Value} {tr qr : List (List Value)} {G : List (Follow × Nat)} (h : RepP w K i S s tv M qv tr qr G) (hi : i ≠ 0)
    (hs : w.heap.size ≤ w'.heap.size) (hK : Ext K K' w.heap.size) (hold : ∀ b, b < w.heap.size → ¬ (K b = (i, 0, 0) ∨ K b = (i, 3, 0)) → w'.heap[b]? = w.heap[b]?) {n : Int} {qv' : Value} {qr' : List (List Value)} {q' : List Done}
    (hS : w'.heap[S]? = some (.cells #[.string s.name, .int .i64 n, .int .i64 s.last, tv, .map (some M), qv'] 70 (0, 0))) (hrow : Row w' K' 72 3 (i, 3, 0) qv' qr') (hrel : Rel₂ (DoneRow w' (Imm K')) [] dDone qr' q') :
    RepP w' K' i S { s with acked := n, queue := q' } tv M qv' tr qr' G := by
  have hI : ¬ ((fun c : Tag => c = (i, 0, 0) ∨ c = (i, 3, 0)) (0, 0, 0)) := by simp; exact fun e => hi e.symm
  exact ⟨hS, (hK S (lt_of_block h.blk)).trans h.kS, (hK M h.map.lt).trans h.kM,
    h.trow.frame hK (fun b hl hb => hold b hl (by simp [hb])), h.times.imp fun _ _ h => h.go (C := fun c => c = (i, 0, 0) ∨ c = (i, 3, 0)) hs hK hold hI,
    h.map.frame (hold M h.map.lt (by simp [h.kM])), h.fol, fun g hg => (h.each g hg).go (C := fun c => c = (i, 0, 0) ∨ c = (i, 3, 0)) hs hK hold hI (by simp) (by simp) (by simp), hrow, hrel⟩

set_option maxRecDepth 100000 in
set_option maxHeartbeats 1600000 in
theorem ack_good {K : Nat → Tag} {i S : Nat} {s : Slot} {m : Nat} {w : World} (h : Rep w K i S s) (hi : i ≠ 0) (hfit : Fits s m) (n : Int) (hn : s.acked ≤ n ∧ n ≤ s.last) :
    Calls Try.prog 19 #[.pointer (some ⟨S, 0, none⟩), .int .i64 n] w fun e w' => e = .returned (.int .i64 0) ∧ ∃ K', Ext K K' w.heap.size ∧ Step K i w w' ∧ Rep w' K' i S { s with acked := n, queue := s.queue.filter fun d => !upTo n d } := by
  obtain ⟨tv, M, qv, tr, qr, G, h⟩ := h
  have hSl := lt_of_block h.blk
  have hblk := Below.blk ((Below.refl _ w).alloc (Nat.le_refl _) (.cells #[.int .i64 n] 3 (0, 0))) h.blk
  have hbox : (w.alloc (.cells #[.int .i64 n] 3 (0, 0))).heap[w.heap.size]? = some (.cells #[.int .i64 n] 3 (0, 0)) := heap_alloc_new w _
  have hql : qr.length ≤ 1000000 := by have := h.queue.1; have := hfit.queue; have := hfit.le; omega
  have hlt : ¬ n < s.acked := by omega
  have hgt : ¬ s.last < n := by omega
  have hqv := h.qrow.open
  have hW5 : Below w.heap.size w (w.alloc (.cells #[.int .i64 n] 3 (0, 0))) := (Below.refl _ w).alloc (Nat.le_refl _) _
  have hcn : (((w.setCell ⟨S, 1, none⟩ (.int .i64 n)).alloc (.cells #[.int .i64 n] 3 (0, 0))).drew).cell? ⟨w.heap.size, 0, none⟩ = some (.int .i64 n) := by
    have := (bfacts (heap_alloc_new (w.setCell ⟨S, 1, none⟩ (.int .i64 n)) (.cells #[.int .i64 n] 3 (0, 0)))).1 0
    simpa using this
  have hcl : w.heap.size < (((w.setCell ⟨S, 1, none⟩ (.int .i64 n)).alloc (.cells #[.int .i64 n] 3 (0, 0))).drew).heap.size := by simp
  have hS5 : (((w.setCell ⟨S, 1, none⟩ (.int .i64 n)).alloc (.cells #[.int .i64 n] 3 (0, 0))).drew).heap[S]? = some (.cells #[.string s.name, .int .i64 n, .int .i64 s.last, tv, .map (some M), qv] 70 (0, 0)) := (Below.heap_alloc _ _ _ (by simpa using hSl)).trans ((blk_set h.blk 1 _).trans rfl)
  have hold5 : ∀ b, b < w.heap.size → b ≠ S → (((w.setCell ⟨S, 1, none⟩ (.int .i64 n)).alloc (.cells #[.int .i64 n] 3 (0, 0))).drew).heap[b]? = w.heap[b]? := fun b hb hn => (Below.heap_alloc _ _ _ (by simpa using hb)).trans (Below.heap_setCell w ⟨S, 1, none⟩ _ b hn)
  have hsz5 : (((w.setCell ⟨S, 1, none⟩ (.int .i64 n)).alloc (.cells #[.int .i64 n] 3 (0, 0))).drew).heap.size = w.heap.size + 1 := by simp
  have HH := Lib.hid (And.intro hcn (And.intro hcl (And.intro hS5 (And.intro hold5 hsz5))))
  have hq0 := h.queue.1
  have HQ := Lib.hid hq0
  clear hcn hcl hS5 hold5 hsz5 hW5 hq0
  obtain ⟨qa, qc, rfl, hq1, hq2, ⟨rfl, rfl, rfl⟩ | ⟨qb, rfl, hqK, hqbl⟩⟩ := hqv
  · have hqe : s.queue = [] := List.eq_nil_of_length_eq_zero HQ.out.symm
    have HQE := Lib.hid hqe
    clear hqe
    simp only [List.length_nil] at *
    go_enter Try.func19, Try.ntmps19
    go_wp2_with fail
    refine wp_region_plan (fun W => W.heap[S]? = some (.cells #[.string s.name, .int .i64 s.acked, .int .i64 s.last, tv, .map (some M), .slice none 0 0] 70 (0, 0)) ∧ W.heap[w.heap.size]? = some (.cells #[.int .i64 n] 3 (0, 0))) [] [(0, 1), (1, 0), (2, 0), (3, 0), (4, 1), (5, 0), (6, 0), (7, 1), (8, 0), (9, 0), (10, 0), (11, 1), (12, 0), (13, 0), (14, 0)] (by kernel_rfl) (by kernel_rfl) (fun _ _ d _ _ h => by first | exact absurd h.1 (fun h => by cases h) | (cases d <;> exact h)) ?_
    have hS : (w.alloc (.cells #[.int .i64 n] 3 (0, 0))).drew.heap[S]? = some (.cells #[.string s.name, .int .i64 s.acked, .int .i64 s.last, tv, .map (some M), .slice none 0 0] 70 (0, 0)) ∧ (w.alloc (.cells #[.int .i64 n] 3 (0, 0))).drew.heap[w.heap.size]? = some (.cells #[.int .i64 n] 3 (0, 0)) := ⟨hblk, hbox⟩
    repeat (first | (refine plan_soft rfl rfl rfl ?_; intro K hK; go_big_quiet_op; go_big_quiet_on) | (refine plan_load hS rfl rfl rfl rfl (fun w' hw' => loadVar_one (v := .int .i64 s.acked) (by kernel_rfl) ((bfacts hw'.1).1 1)) ?_; (try simp only [Act.put, List.setIfInBounds_toArray, List.set_cons_zero, List.set_cons_succ])) | (refine plan_load hS rfl rfl rfl rfl (fun w' hw' => loadVar_one (v := .int .i64 s.last) (by kernel_rfl) ((bfacts hw'.1).1 2)) ?_; (try simp only [Act.put, List.setIfInBounds_toArray, List.set_cons_zero, List.set_cons_succ])) | (refine plan_load hS rfl rfl rfl rfl (fun w' hw' => loadVar_one (v := .int .i64 n) (by kernel_rfl) ((bfacts hw'.2).1 0)) ?_; (try simp only [Act.put, List.setIfInBounds_toArray, List.set_cons_zero, List.set_cons_succ])))
    simp only [show decide (n < s.acked) = false from by simpa using hlt]
    repeat (first | (refine plan_soft rfl rfl rfl ?_; intro K hK; go_big_quiet_op; go_big_quiet_on) | (refine plan_load hS rfl rfl rfl rfl (fun w' hw' => loadVar_one (v := .int .i64 s.acked) (by kernel_rfl) ((bfacts hw'.1).1 1)) ?_; (try simp only [Act.put, List.setIfInBounds_toArray, List.set_cons_zero, List.set_cons_succ])) | (refine plan_load hS rfl rfl rfl rfl (fun w' hw' => loadVar_one (v := .int .i64 s.last) (by kernel_rfl) ((bfacts hw'.1).1 2)) ?_; (try simp only [Act.put, List.setIfInBounds_toArray, List.set_cons_zero, List.set_cons_succ])) | (refine plan_load hS rfl rfl rfl rfl (fun w' hw' => loadVar_one (v := .int .i64 n) (by kernel_rfl) ((bfacts hw'.2).1 0)) ?_; (try simp only [Act.put, List.setIfInBounds_toArray, List.set_cons_zero, List.set_cons_succ])))
    simp only [show decide (s.last < n) = false from by simpa using hgt]
    show Exit.then _ _ _ _ _
    clear hS
    obtain ⟨sc, sf, sl⟩ := bfacts h.blk
    go_wp2_with fail
    refine (delete_nil w.heap.size n _ HH.out.1 HH.out.2.1).mono ?_
    rintro e w1 ⟨rfl, hb1⟩
    have hS1 := Below.blk hb1 HH.out.2.2.1
    obtain ⟨vc, vf, vl⟩ := bfacts hS1
    clear sc sf sl
    go_wp2
    go_ret
    have hs1 := hb1.size
    rw [HH.out.2.2.2.2] at hs1
    have hold : ∀ b, b < w.heap.size → ¬ (K b = (i, 0, 0) ∨ K b = (i, 3, 0)) → (w1.setCell ⟨S, 5, none⟩ (.slice none 0 0)).heap[b]? = w.heap[b]? := fun b hb hn => by
      have hbS : b ≠ S := fun e => hn (.inl (by rw [e]; exact h.kS))
      exact (Below.heap_setCell w1 ⟨S, 5, none⟩ _ b hbS).trans ((hb1.block b (by rw [HH.out.2.2.2.2]; omega)).trans (HH.out.2.2.2.1 b hb hbS))
    refine ⟨rfl, fun b => if b < w.heap.size then K b else (0, 0, 0), fun b hb => by simp [hb], ⟨hb1.os, hb1.tape, hb1.output, by simp; omega, fun b hb hn => hold b hb (by rintro (e | e) <;> exact hn (by rw [e]))⟩, _, _, _, _, _, _, h.requeue hi (by simp; omega) (fun b hb => by simp [hb]) hold ((blk_set hS1 5 _).trans rfl) (Row.nil _ _ _ _ _) ?_⟩
    rw [HQE.out]
    exact Rel₂.nil
  · have hqS : qb ≠ S := fun e => by rw [e, h.kS] at hqK; simp at hqK
    go_enter Try.func19, Try.ntmps19
    go_wp2_with fail
    refine wp_region_plan (fun W => W.heap[S]? = some (.cells #[.string s.name, .int .i64 s.acked, .int .i64 s.last, tv, .map (some M), .slice (some ⟨qb, 0, none⟩) qr.length qc] 70 (0, 0)) ∧ W.heap[w.heap.size]? = some (.cells #[.int .i64 n] 3 (0, 0))) [] [(0, 1), (1, 0), (2, 0), (3, 0), (4, 1), (5, 0), (6, 0), (7, 1), (8, 0), (9, 0), (10, 0), (11, 1), (12, 0), (13, 0), (14, 0)] (by kernel_rfl) (by kernel_rfl) (fun _ _ d _ _ h => by first | exact absurd h.1 (fun h => by cases h) | (cases d <;> exact h)) ?_
    have hS : (w.alloc (.cells #[.int .i64 n] 3 (0, 0))).drew.heap[S]? = some (.cells #[.string s.name, .int .i64 s.acked, .int .i64 s.last, tv, .map (some M), .slice (some ⟨qb, 0, none⟩) qr.length qc] 70 (0, 0)) ∧ (w.alloc (.cells #[.int .i64 n] 3 (0, 0))).drew.heap[w.heap.size]? = some (.cells #[.int .i64 n] 3 (0, 0)) := ⟨hblk, hbox⟩
    repeat (first | (refine plan_soft rfl rfl rfl ?_; intro K hK; go_big_quiet_op; go_big_quiet_on) | (refine plan_load hS rfl rfl rfl rfl (fun w' hw' => loadVar_one (v := .int .i64 s.acked) (by kernel_rfl) ((bfacts hw'.1).1 1)) ?_; (try simp only [Act.put, List.setIfInBounds_toArray, List.set_cons_zero, List.set_cons_succ])) | (refine plan_load hS rfl rfl rfl rfl (fun w' hw' => loadVar_one (v := .int .i64 s.last) (by kernel_rfl) ((bfacts hw'.1).1 2)) ?_; (try simp only [Act.put, List.setIfInBounds_toArray, List.set_cons_zero, List.set_cons_succ])) | (refine plan_load hS rfl rfl rfl rfl (fun w' hw' => loadVar_one (v := .int .i64 n) (by kernel_rfl) ((bfacts hw'.2).1 0)) ?_; (try simp only [Act.put, List.setIfInBounds_toArray, List.set_cons_zero, List.set_cons_succ])))
    simp only [show decide (n < s.acked) = false from by simpa using hlt]
    repeat (first | (refine plan_soft rfl rfl rfl ?_; intro K hK; go_big_quiet_op; go_big_quiet_on) | (refine plan_load hS rfl rfl rfl rfl (fun w' hw' => loadVar_one (v := .int .i64 s.acked) (by kernel_rfl) ((bfacts hw'.1).1 1)) ?_; (try simp only [Act.put, List.setIfInBounds_toArray, List.set_cons_zero, List.set_cons_succ])) | (refine plan_load hS rfl rfl rfl rfl (fun w' hw' => loadVar_one (v := .int .i64 s.last) (by kernel_rfl) ((bfacts hw'.1).1 2)) ?_; (try simp only [Act.put, List.setIfInBounds_toArray, List.set_cons_zero, List.set_cons_succ])) | (refine plan_load hS rfl rfl rfl rfl (fun w' hw' => loadVar_one (v := .int .i64 n) (by kernel_rfl) ((bfacts hw'.2).1 0)) ?_; (try simp only [Act.put, List.setIfInBounds_toArray, List.set_cons_zero, List.set_cons_succ])))
    simp only [show decide (s.last < n) = false from by simpa using hgt]
    show Exit.then _ _ _ _ _
    clear hS
    obtain ⟨sc, sf, sl⟩ := bfacts h.blk
    go_wp2_with fail
    have hown5 := h.qrow.owns.kept (w' := (((w.setCell ⟨S, 1, none⟩ (.int .i64 n)).alloc (.cells #[.int .i64 n] 3 (0, 0))).drew)) (row := some S) ⟨rfl, rfl, rfl, by have := HH.out.2.2.2.2; omega, fun b hb hn => HH.out.2.2.2.1 b hb (fun e => hn (by rw [e]))⟩ (.inr (by simp [Value.ownBlock]; exact hqS))
    have hrel5 : Rel₂ (DoneRow (((w.setCell ⟨S, 1, none⟩ (.int .i64 n)).alloc (.cells #[.int .i64 n] 3 (0, 0))).drew) (fun b => Imm K b ∧ b < w.heap.size)) [] dDone qr s.queue := h.queue.imp fun _ _ h' => framed_done.frame (framed_done.mono h' (Q := fun b => Imm K b ∧ b < w.heap.size) fun b hb hl => ⟨hb, hl⟩) ⟨by have := HH.out.2.2.2.2; omega, fun b hb hl => HH.out.2.2.2.1 b hl (fun e => by have h2 : K b = (0, 0, 0) := hb.1; rw [e, h.kS] at h2; simp at h2; exact hi h2)⟩
    refine (delete_done qb qr.length qc qr s.queue (fun b => Imm K b ∧ b < w.heap.size) w.heap.size n _ hown5 rfl h.qrow.len hrel5 HH.out.1 HH.out.2.1 (by omega) hql).mono ?_
    rintro e w1 ⟨rows', rfl, hown', hlen', hrel', hg1⟩
    have hS1 : w1.heap[S]? = some (.cells #[.string s.name, .int .i64 n, .int .i64 s.last, tv, .map (some M), .slice (some ⟨qb, 0, none⟩) qr.length qc] 70 (0, 0)) := (hg1.block S (by rw [HH.out.2.2.2.2]; omega) (by simp; exact fun e => hqS e.symm)).trans HH.out.2.2.1
    obtain ⟨vc, vf, vl⟩ := bfacts hS1
    clear sc sf sl
    go_wp2
    go_ret
    have hs1 := hg1.size
    rw [HH.out.2.2.2.2] at hs1
    have hold : ∀ b, b < w.heap.size → ¬ (K b = (i, 0, 0) ∨ K b = (i, 3, 0)) → (w1.setCell ⟨S, 5, none⟩ (.slice (some ⟨qb, 0, none⟩) rows'.length qc)).heap[b]? = w.heap[b]? := fun b hb hn => by
      have hbS : b ≠ S := fun e => hn (.inl (by rw [e]; exact h.kS))
      have hbq : b ≠ qb := fun e => hn (.inr (by rw [e]; exact hqK))
      exact (Below.heap_setCell w1 ⟨S, 5, none⟩ _ b hbS).trans ((hg1.block b (by rw [HH.out.2.2.2.2]; omega) (by simp; exact hbq)).trans (HH.out.2.2.2.1 b hb hbS))
    have hKx : Ext K (fun b => if b < w.heap.size then K b else (0, 0, 0)) w.heap.size := fun b hb => by simp [hb]
    have hI : ¬ ((fun c : Tag => c = (i, 0, 0) ∨ c = (i, 3, 0)) (0, 0, 0)) := by simp; exact fun e => hi e.symm
    refine ⟨rfl, _, hKx, ⟨hg1.os, hg1.tape, hg1.output, by simp; omega, fun b hb hn => hold b hb (by rintro (e | e) <;> exact hn (by rw [e]))⟩, _, _, _, _, _, _, h.requeue hi (by simp; omega) hKx hold ((blk_set hS1 5 _).trans rfl) ⟨hown'.kept (grown_set w1 ⟨S, 5, none⟩ _) (.inr (by simp [Value.ownBlock]; exact hqS)), hlen', fun b hb => ?_⟩ ?_⟩
    · simp [Value.ownBlock] at hb
      subst hb
      simp [hqbl, hqK]
    · refine hrel'.imp fun _ _ h' => framed_done.mono (framed_done.frame h' (w' := w1.setCell ⟨S, 5, none⟩ (.slice (some ⟨qb, 0, none⟩) rows'.length qc)) ⟨by have := HH.out.2.2.2.2; simp; omega, fun b hb _ => ?_⟩) fun b hb _ => by simp [Imm, hb.2]; exact hb.1
      have hbS : b ≠ S := fun e => by have h2 : K b = (0, 0, 0) := hb.1; rw [e, h.kS] at h2; simp at h2; exact hi h2
      exact (hold b hb.2 (by rw [hb.1]; exact hI)).trans (HH.out.2.2.2.1 b hb.2 hbS).symm
end Go.Proofs.Ytplafccjgbeojaa
