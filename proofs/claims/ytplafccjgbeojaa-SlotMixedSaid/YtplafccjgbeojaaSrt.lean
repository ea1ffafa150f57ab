/- slices.SortFunc at turns -/
import Derived.Test.YtplafccjgbeojaaQry
import Derived.Test.YtplafccjgbeojaaLay
open Go Go.RowKit Go.Shelf Go.Lib
namespace Go.Proofs.Ytplafccjgbeojaa
open Pm

structure TCell where
  lsn : Int
  kind : Int
  table : ByteArray
  a1 : Option Addr
  n1 : Nat
  c1 : Nat
  a2 : Option Addr
  n2 : Nat
  c2 : Nat
  a3 : Option Addr
  n3 : Nat
  c3 : Nat
  deriving Inhabited

def TCell.enc (x : TCell) : List Value := [.int .i64 x.lsn, .int .i64 x.kind, .string x.table, .slice x.a1 x.n1 x.c1, .slice x.a2 x.n2 x.c2, .slice x.a3 x.n3 x.c3]

theorem isNaN_calls (a : Int) (W : World) : Calls Try.prog 56 #[.int .i64 a] W fun e w' => e = .returned (.bool false) ∧ w' = W := by
  go_enter Try.func56, Try.ntmps56
  go_wp2
  go_ret
  exact ⟨rfl, rfl⟩

theorem cmp_calls (a b : Int) (W : World) : Calls Try.prog 32 #[.int .i64 a, .int .i64 b] W fun e w' => e = .returned (.int .i64 (Lib.compareInt a b)) ∧ w' = W := by
  go_enter Try.func32, Try.ntmps32
  go_wp2_with fail
  refine (isNaN_calls _ _).mono ?_
  rintro e w1 ⟨rfl, rfl⟩
  go_wp2_with fail
  refine (isNaN_calls _ _).mono ?_
  rintro e w1 ⟨rfl, rfl⟩
  go_wp2
  all_goals
    go_ret
    refine ⟨?_, rfl⟩
    unfold Lib.compareInt
    (repeat' split) <;> first | rfl | (exfalso; omega)

set_option maxHeartbeats 1000000 in
theorem closure_calls (x y : TCell) (W : World) : Calls Try.prog 31 #[.agg x.enc.toArray, .agg y.enc.toArray] W fun e w' => e = .returned (.int .i64 (Lib.compareInt x.lsn y.lsn)) ∧ ∃ q os', w' = Sort.grow (W.drewN q) os' := by
  unfold TCell.enc
  have hcon := fun W' => cmp_calls x.lsn y.lsn W'
  generalize Lib.compareInt x.lsn y.lsn = r at hcon ⊢
  go_enter Try.func31, Try.ntmps31
  go_wp2_with fail
  refine (hcon _).mono ?_
  rintro e w' ⟨rfl, rfl⟩
  go_wp2
  go_ret
  exact ⟨rfl, 0, _, by rw [Sort.alloc_eq_grow, Sort.alloc_eq_grow, Sort.grow_grow]; rfl⟩

theorem perm_lift {α β : Type} {f : α → β} {l' m : List β} (h : l'.Perm m) : ∀ z : List α, z.map f = m → ∃ z' : List α, z'.Perm z ∧ z'.map f = l' := by
  induction h with
  | nil => intro z hz; exact ⟨[], by simp at hz; subst hz; exact .nil, rfl⟩
  | cons x _ ih =>
    intro z hz
    match z, hz with
    | a :: z2, hz =>
      simp only [List.map_cons, List.cons.injEq] at hz
      obtain ⟨z', h1, h2⟩ := ih z2 hz.2
      exact ⟨a :: z', h1.cons a, by simp [h2, hz.1]⟩
  | swap x y l =>
    intro z hz
    match z, hz with
    | a :: b :: z2, hz =>
      simp only [List.map_cons, List.cons.injEq] at hz
      exact ⟨b :: a :: z2, .swap _ _ _, by simp [hz]⟩
  | trans _ _ ih1 ih2 =>
    intro z hz
    obtain ⟨z2, h1, h2⟩ := ih2 z hz
    obtain ⟨z3, h3, h4⟩ := ih1 z2 h2
    exact ⟨z3, h3.trans h1, h4⟩

theorem swo_lsn : Sort.SWO (ltOf fun x y : TCell => Lib.compareInt x.lsn y.lsn) := by
  have e : ∀ x y : TCell, ltOf (fun x y : TCell => Lib.compareInt x.lsn y.lsn) x y = decide (x.lsn < y.lsn) := fun x y => by
    unfold ltOf Lib.compareInt
    by_cases h1 : x.lsn < y.lsn
    · simp [h1]
    · by_cases h2 : y.lsn < x.lsn <;> simp [h1, h2]
  refine ⟨fun x => by rw [e]; simp, fun x y z h1 h2 => ?_, fun x y z h1 h2 => ?_⟩ <;> rw [e] at * <;> simp at * <;> omega

theorem rows_cells {w : World} {P : Nat → Prop} : ∀ (rows : List (List Value)) (ts : List Turn), rows.length = ts.length → (∀ i, i < ts.length → TurnRow w P (nth rows [] i) (nth ts dTurn i)) → ∃ z : List (TCell × Turn), z.map (fun p => p.1.enc) = rows ∧ z.map (·.2) = ts ∧ ∀ p ∈ z, p.1.lsn = p.2.lsn ∧ TurnRow w P p.1.enc p.2
  | [], [], _, _ => ⟨[], rfl, rfl, by simp⟩
  | [], _ :: _, h, _ => by simp at h
  | _ :: _, [], h, _ => by simp at h
  | r :: rows, t :: ts, hl, h => by
    obtain ⟨z, h1, h2, h3⟩ := rows_cells rows ts (by simpa using hl) (fun i hi => by have := h (i + 1) (by simpa using hi); simpa [nth] using this)
    have h0 := h 0 (by simp)
    have h0' : TurnRow w P r t := by simpa [nth] using h0
    obtain ⟨rc, e1, a1, n1, c1, a2, n2, c2, a3, n3, c3, e2, q⟩ := h0'
    have hr : r = TCell.enc ⟨t.lsn, t.ch.kind, t.ch.table, a1, n1, c1, a2, n2, c2, a3, n3, c3⟩ := by rw [e1, e2]; rfl
    refine ⟨(⟨t.lsn, t.ch.kind, t.ch.table, a1, n1, c1, a2, n2, c2, a3, n3, c3⟩, t) :: z, by simp [h1, hr], by simp [h2], ?_⟩
    intro p hp
    rcases List.mem_cons.1 hp with rfl | hp
    · exact ⟨rfl, by rw [← hr]; simpa [nth] using h0⟩
    · exact h3 p hp

/-- a row's cells, known one by one -/
theorem owns_of_cells {w : World} {e k n cap g : Nat} {cur : Array Value} {rows : List (List Value)} (hg : w.heap[g]? = some (.cells cur e (0, 0))) (hn : n = rows.length) (hnc : n ≤ cap) (hm : cap ≤ maxLen) (hs : cur.size = cap * k) (hk : ∀ r ∈ rows, r.length = k) (hk0 : 0 < k)
    (hc : ∀ i j, i < n → j < k → cur[i * k + j]? = (nth rows [] i)[j]?) : w.ownsRow 0 e k (.slice (some ⟨g, 0, none⟩) n cap) n rows.flatten := by
  subst hn
  refine ⟨length_flatten rows hk, .inr ⟨g, cap, cur, rfl, Nat.zero_le _, hg, hnc, hm, hs, ?_⟩⟩
  apply List.ext_getElem?
  intro t
  have hle : rows.length * k ≤ cap * k := Nat.mul_le_mul_right _ hnc
  by_cases ht : t < rows.length * k
  · have hd : t = t / k * k + t % k := by rw [Nat.mul_comm]; exact (Nat.div_add_mod t k).symm
    have hi : t / k < rows.length := Nat.div_lt_of_lt_mul (by rw [Nat.mul_comm]; exact ht)
    have hmm : t % k < k := Nat.mod_lt _ hk0
    rw [List.getElem?_take_of_lt ht, hd, flatten_get rows hk _ _ hi hmm, Array.getElem?_toList, hc _ _ hi hmm]
  · rw [List.getElem?_eq_none (by simp; omega), List.getElem?_eq_none (by rw [length_flatten rows hk]; omega)]

theorem mapBlock_other (w : World) (g : Nat) (f : Array Value → Array Value) {b : Nat} (h : b ≠ g) : (Sort.mapBlock w g f).heap[b]? = w.heap[b]? := by
  simp [Sort.mapBlock, Array.getElem?_modify, Ne.symm h]

theorem mapBlock_same {w : World} {g : Nat} {c : Array Value} {e : TypeId} {fr : Nat × Nat} (f : Array Value → Array Value) (h : w.heap[g]? = some (.cells c e fr)) : (Sort.mapBlock w g f).heap[g]? = some (.cells (f c) e fr) := by
  simp [Sort.mapBlock, Array.getElem?_modify, h, Sort.onCells]

/-- THE SORT -/
theorem sort_calls {w : World} {P : Nat → Prop} {n cap g : Nat} {rows : List (List Value)} {ts : List Turn} (hown : w.ownsRow 0 78 6 (.slice (some ⟨g, 0, none⟩) n cap) n rows.flatten) (hn : n = rows.length) (hk : ∀ r ∈ rows, r.length = 6)
    (hr : Rel₂ (TurnRow w P) [] dTurn rows ts) (hsm : n ≤ 1000000) :
    Calls Try.prog 30 #[.slice (some ⟨g, 0, none⟩) n cap, .func (.func 31) #[] #[]] w fun e w' => e = .returned (.tuple #[]) ∧ ∃ rows' ts', ts'.Perm ts ∧ ts'.Pairwise (fun a b => a.lsn ≤ b.lsn) ∧
      n = rows'.length ∧ (∀ r ∈ rows', r.length = 6) ∧ w'.ownsRow 0 78 6 (.slice (some ⟨g, 0, none⟩) n cap) n rows'.flatten ∧ Rel₂ (TurnRow w P) [] dTurn rows' ts' ∧ w.grownBy w' (some g) := by
  obtain ⟨z, hz1, hz2, hz3⟩ := rows_cells rows ts hr.1 hr.2
  have hzl : z.length = n := by rw [hn, ← hz1]; simp
  rcases hown.2 with ⟨h, _⟩ | ⟨g', cap', cur, he, _, hg, hnc, hcm, hcs, htake⟩
  · simp at h
  simp only [Value.slice.injEq, Option.some.injEq, Addr.mk.injEq, and_true, true_and] at he
  obtain ⟨rfl, rfl⟩ := he
  have hd : (z.map (·.1)).toArray.size = n := by simp [hzl]
  have hH : Sort.HoldsK TCell.enc 6 w g 0 (z.map (·.1)).toArray := by
    intro t ht
    rw [Sort.size_flatK] at ht
    rw [Sort.get_flatK _ _ _ _ ht]
    have hi : t / 6 < z.length := by simp at ht; omega
    have hnth : nth rows [] (t / 6) = TCell.enc (z.map (·.1)).toArray[t / 6]! := by
      rw [← hz1, nth_eq (by simpa using hi)]
      simp [hi]
    have hc := hown.cellAt t (by rw [hd] at ht; exact ht)
    have hdm : t = t / 6 * 6 + t % 6 := by omega
    have hfl := flatten_get rows hk (t / 6) (t % 6) (by rw [← hn, ← hzl]; exact hi) (by omega)
    rw [← hdm] at hfl
    refine ⟨?_, (bfacts hg).2.1 _⟩
    rw [Nat.zero_add, hc, hfl, hnth]
    have : t % 6 < (TCell.enc (z.map (·.1)).toArray[t / 6]!).length := by simp [TCell.enc]; omega
    rw [getElem!_pos (TCell.enc (z.map (·.1)).toArray[t / 6]!) (t % 6) this, List.getElem?_eq_getElem this]
    rfl
  have eg : ∀ args w, (callFunc 31 args).run Try.prog w = .ok (.enter 31 args) w := enters_of Try.func31 (by kernel_rfl) rfl
  have hcon := AnyQ.slices_SortFunc sortTurn 6 Try.isAgg78 Try.sizeOf78 TCell.enc (fun _ => rfl) (fun x v hv => by simp [TCell.enc] at hv; rcases hv with rfl | rfl | rfl | rfl | rfl | rfl <;> rfl) (fun x y => Lib.compareInt x.lsn y.lsn) swo_lsn 31 #[] g 0 cap (z.map (·.1)).toArray w eg
    (fun _ _ _ _ x y => closure_calls x y _) hH (lt_of_block hg) (by rw [hd]; omega)
  rw [hd] at hcon
  refine Calls.mono (show Calls Try.prog 30 _ _ _ from hcon) ?_
  rintro e w' ⟨rfl, d', q, os, hp, hso, rfl⟩
  refine ⟨rfl, ?_⟩
  obtain ⟨hps, _, hpp⟩ := hp
  have hpl : d'.toList.Perm (z.map (·.1)) := by
    have e1 : d'.extract 0 n = d' := by rw [← hd, ← hps]; exact Array.extract_size
    have e2 : (z.map (·.1)).toArray.extract 0 n = (z.map (·.1)).toArray := by rw [← hd]; exact Array.extract_size
    rw [e1, e2] at hpp
    simpa using hpp
  obtain ⟨z', hzp, hzm⟩ := perm_lift hpl z rfl
  have hz'l : z'.length = n := by rw [hzp.length_eq, hzl]
  have hd' : d'.size = n := by rw [hps, hd]
  have hmem : ∀ p ∈ z', p.1.lsn = p.2.lsn ∧ TurnRow w P p.1.enc p.2 := fun p hp => hz3 p (hzp.mem_iff.1 hp)
  have hheap : (sortWorldK TCell.enc 6 w g 0 q d' os).heap[g]? = some (.cells (Sort.putCells id 0 (Sort.flatK TCell.enc 6 d') cur) 78 (0, 0)) := by
    unfold sortWorldK Sort.grow Sort.putRowK Sort.putRow
    have h1 := mapBlock_same (w := Sort.ahead w q) (Sort.putCells id 0 (Sort.flatK TCell.enc 6 d')) hg
    show (_ ++ _)[g]? = _
    rw [Array.getElem?_append_left (lt_of_block h1)]
    exact h1
  have hH' := holdsK_sortWorldK_c TCell.enc 6 w g 0 _ d' q os hH (lt_of_block hg) hps
  have hdz : ∀ i (hi : i < z'.length), d'[i]! = (z'[i]).1 := fun i hi => by
    have h1 : d'.toList[i]? = some (z'[i]).1 := by rw [← hzm]; simp [hi]
    rw [Array.getElem?_toList] at h1
    have h2 : i < d'.size := by omega
    rw [getElem!_pos d' i h2]
    rw [Array.getElem?_eq_getElem h2] at h1
    simpa using h1
  have hcell : ∀ i j, i < n → j < 6 → (Sort.putCells id 0 (Sort.flatK TCell.enc 6 d') cur)[i * 6 + j]? = (nth (z'.map fun p => p.1.enc) [] i)[j]? := fun i j hi hj => by
    have hi' : i < z'.length := by omega
    have ht : i * 6 + j < (Sort.flatK TCell.enc 6 d').size := by rw [Sort.size_flatK]; omega
    have h1 := (hH' (i * 6 + j) ht).1
    rw [(bfacts hheap).1, Nat.zero_add] at h1
    rw [h1, Sort.get_flatK _ _ _ _ (by rw [Sort.size_flatK] at ht; exact ht), show (i * 6 + j) / 6 = i by omega, show (i * 6 + j) % 6 = j by omega, hdz i hi', nth_eq (by simpa using hi')]
    have : j < (TCell.enc (z'[i]).1).length := by simp [TCell.enc]; omega
    rw [getElem!_pos (TCell.enc (z'[i]).1) j this]
    simp only [List.getElem_map, List.getElem?_eq_getElem this]
    rfl
  refine ⟨z'.map fun p => p.1.enc, z'.map (·.2), by rw [← hz2]; exact hzp.map _, ?_, by simp [hz'l], ?_, owns_of_cells hheap (by simp [hz'l]) hnc hcm ?_ ?_ (by decide) hcell, ⟨by simp, fun i hi => ?_⟩, ?_⟩
  · rw [List.pairwise_iff_getElem]
    intro i j hi hj hij
    simp only [List.length_map] at hi hj
    have := hso i j (Nat.zero_le _) hij (by omega)
    rw [hdz i hi, hdz j hj] at this
    simp only [List.getElem_map]
    rw [← (hmem z'[i] (List.getElem_mem hi)).1, ← (hmem z'[j] (List.getElem_mem hj)).1]
    unfold ltOf Lib.compareInt at this
    by_cases h1 : (z'[j]).1.lsn < (z'[i]).1.lsn
    · simp [h1] at this
    · omega
  · intro r hr
    obtain ⟨p, _, rfl⟩ := List.mem_map.1 hr
    rfl
  · unfold Sort.putCells
    rw [Array.size_mapIdx]; exact hcs
  · intro r hr
    obtain ⟨p, _, rfl⟩ := List.mem_map.1 hr
    rfl
  · have hi' : i < z'.length := by simpa using hi
    rw [nth_eq (by simpa using hi'), nth_eq (by simpa using hi')]
    simp only [List.getElem_map]
    exact (hmem _ (List.getElem_mem hi')).2
  · refine ⟨rfl, rfl, rfl, size_sortWorldK_c TCell.enc 6 w g 0 q d' os, fun b hb hne => ?_⟩
    have hbg : b ≠ g := fun e => hne (by rw [e])
    show (_ ++ _)[b]? = _
    have h1 := mapBlock_other (Sort.ahead w q) g (Sort.putCells id 0 (Sort.flatK TCell.enc 6 d')) hbg
    have h2 : b < (Sort.mapBlock (Sort.ahead w q) g (Sort.putCells id 0 (Sort.flatK TCell.enc 6 d'))).heap.size := by simp [Sort.mapBlock, Sort.ahead]; exact hb
    have h3 : b < (Sort.putRowK TCell.enc 6 (Sort.ahead w q) g 0 d').heap.size := h2
    rw [Array.getElem?_append_left h3]
    exact h1

end Go.Proofs.Ytplafccjgbeojaa
