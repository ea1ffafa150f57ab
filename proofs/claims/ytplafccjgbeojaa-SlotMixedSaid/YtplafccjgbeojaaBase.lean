/- Small laws for the walks: comparisons with nil, append onto rows, the types' rows. -/
import Derived.Test.YtplafccjgbeojaaProg
import Derived.Test.YtplafccjgbeojaaMem
open Go Go.RowKit
namespace Go.Proofs.Ytplafccjgbeojaa
open Pm

/-- a fact kept from the walk -/
theorem Lib.hid {p : Prop} (h : p) : Go.RowKit.Hid p := h

section
variable {P : Program} (w : World)
@[go_sem] theorem eql_slice_nil (t : TypeId) (a : Option Addr) (n c n' c' : Nat) (h : P.underlying t = some (.slice (P.elem t))) :
    (binOp .eql t (.slice a n c) (.slice none n' c')).run P w = .ok (.bool a.isNone) w := Lib.run_eql_slice_nil w t _ a n c n' c' h
@[go_sem] theorem neq_slice_nil (t : TypeId) (a : Option Addr) (n c n' c' : Nat) (h : P.underlying t = some (.slice (P.elem t))) :
    (binOp .neq t (.slice a n c) (.slice none n' c')).run P w = .ok (.bool (!a.isNone)) w := run_neq_slice_nil_any w t _ a n c n' c' h
end

/-- 'append(s, xs...)' at whatever source that holds the rows -/
theorem src_cells {w : World} {P : Nat → Prop} {k b off n cap : Nat} {rows : List (List Value)} (h : SlAt w P k (.slice (some ⟨b, off, none⟩) n cap) rows) (hk : 0 < k) :
    rows.flatten.length = rows.length * k ∧ ∀ j u, rows.flatten[j]? = some u → w.cell? ((⟨b, off, none⟩ : Addr).add j) = some u := by
  rcases h with ⟨h, _⟩ | ⟨b', off', cap', hv, hP, h1, h2, h3⟩
  · simp at h
  · simp only [Value.slice.injEq, Option.some.injEq, Addr.mk.injEq, and_true] at hv
    obtain ⟨⟨rfl, rfl⟩, hn, rfl⟩ := hv
    have hlen : ∀ r ∈ rows, r.length = k := fun r hr => by
      obtain ⟨i, hi, rfl⟩ := mem_nth [] hr
      exact (h3 i hi).1
    refine ⟨length_flatten rows hlen, fun j u hj => ?_⟩
    have hjl : j < rows.length * k := by rw [← length_flatten rows hlen]; exact (List.getElem?_eq_some_iff.1 hj).1
    have hd : j = j / k * k + j % k := by rw [Nat.mul_comm]; exact (Nat.div_add_mod j k).symm
    have hi : j / k < rows.length := Nat.div_lt_of_lt_mul (by rw [Nat.mul_comm]; exact hjl)
    have hm : j % k < k := Nat.mod_lt _ hk
    rw [hd, flatten_get rows hlen _ _ hi hm] at hj
    have := (h3 _ hi).2 _ hm
    rw [hj] at this
    rw [show ((⟨b, off, none⟩ : Addr).add j) = ⟨b, off + j / k * k + j % k, none⟩ from by rw [Addr.add_lit, Nat.add_assoc, ← hd]]
    exact this


theorem run_zero {P : Program} {e : TypeId} {z : Value} (h : (P.info? e).map (·.zero) = some (some z)) (w : World) : (zeroValue e).run P w = .ok z w := by
  cases hq : P.info? e with
  | none => simp [hq] at h
  | some i => simp [hq] at h; simp [zeroValue, typeInfo, hq, h]

/-- the row of an element type in the program's table -/
structure Elem (P : Program) (t e : TypeId) (k bytes : Nat) (z : Value) : Prop where
  ht : P.underlying t = some (.slice e)
  hi : ∃ i, P.info? e = some i ∧ i.zero = some z ∧ i.size = k ∧ i.bytes = bytes
  hz : z.cells.size = k
  hk : 0 < k

theorem Elem.mk' {P : Program} {t e : TypeId} {k bytes : Nat} {z : Value} (ht : P.underlying t = some (.slice e))
    (hi : (P.info? e).map (fun i => (i.zero, i.size, i.bytes)) = some (some z, k, bytes)) (hz : z.cells.size = k) (hk : 0 < k) : Elem P t e k bytes z :=
  ⟨ht, info_parts hi, hz, hk⟩

/-- 'append(s, xs...)', s a row that is owned, xs whatever slice -/
theorem oper_app {P : Program} {w : World} {o : Oper} {a : Act} {K : Act → World → Prop} {Q : Exit → Act → World → Prop} (s x : Operand) (t : TypeId)
    (ho : o.op = .call { callee := .builtin .append, args := #[s, x], argTypes := #[t, t] })
    {e : TypeId} {z : Value} {k bytes : Nat} (hE : Elem P t e k bytes z)
    {v : Value} (hs : a.eval s = v) {n : Nat} {rows : List (List Value)} (hown : w.ownsRow 0 e k v n rows.flatten)
    {vx : Value} (hx : a.eval x = vx) {S : Nat → Prop} {rows' : List (List Value)} (hsrc : SlAt w S k vx rows') (h1 : ∀ r ∈ rows', ∀ u ∈ r, u.oneCell' = true)
    (h63 : n + rows'.length ≤ 9223372036854775807) (hbytes : (n + rows'.length) * bytes ≤ 140737488355328)
    (h : ∀ v' w', w'.ownsRow 0 e k v' (n + rows'.length) (rows ++ rows').flatten → w.grownBy w' v.ownBlock → (v' = .slice none 0 0 ↔ v = .slice none 0 0 ∧ rows' = []) →
      (v'.ownBlock = v.ownBlock ∨ v'.ownBlock = some w.heap.size) → K (a.put o.dst v') w') : o.wp P a w K Q := by
  obtain ⟨ht, ⟨i, hi, hz0, hz1, hz2⟩, hz, hk⟩ := hE
  have hflat : (rows ++ rows').flatten = rows.flatten ++ rows'.flatten := by simp
  rcases hsrc.open with ⟨ad, cap, rfl, hc1, hc2, ⟨rfl, rfl, rfl⟩ | ⟨b, off, rfl, hSb, _⟩⟩
  · have hr := run_append_owned_none (P := P) w 0 t o.type e i k ht hi v n rows.flatten hown
    have hK' := (h v w (by simpa using hown) ⟨rfl, rfl, rfl, Nat.le_refl _, fun _ _ _ => rfl⟩ (by simp) (.inl rfl))
    unfold Oper.wp execOp
    simp only [List.length_nil] at hx
    simp only [ho, resolve, invoke, builtin, Sem.run_bind, Sem.run_pure, Result.andThen_ok, List.map_toArray, List.map_cons, List.map_nil, hs, hx, hr]
    exact hK'
  · obtain ⟨hl, hc⟩ := src_cells hsrc hk
    obtain ⟨v', w', hr, h2, h3, h4, h5⟩ := run_append_own_at (P := P) w 0 t o.type e i z k bytes ht hi hz0 hz1 hz2 hz hk v n rows.flatten hown ⟨b, off, none⟩ rows'.length cap rows'.flatten hl hc (fun u hu => by
      obtain ⟨r, hr, hur⟩ := List.mem_flatten.1 hu
      exact h1 r hr u hur) (by unfold maxLen; omega) hbytes (Nat.zero_le _)
    have hK' := (h v' w' (by rw [hflat]; exact h2) h3 (by rw [h4, ← List.length_eq_zero_iff]) h5)
    unfold Oper.wp execOp
    simp only [ho, resolve, invoke, builtin, Sem.run_bind, Sem.run_pure, Result.andThen_ok, List.map_toArray, List.map_cons, List.map_nil, hs, hx, hr]
    exact hK'

/-- .. in a list of operations -/
theorem wpList_app {P : Program} {w : World} {ops : Array Oper} {rest : List Oper} {o : Oper} {a : Act} {Q : Exit → Act → World → Prop} (hgd : o.guard = none) (s x : Operand) (t : TypeId)
    (ho : o.op = .call { callee := .builtin .append, args := #[s, x], argTypes := #[t, t] })
    {e : TypeId} {z : Value} {k bytes : Nat} (hE : Elem P t e k bytes z)
    {v : Value} (hs : a.eval s = v) {n : Nat} {rows : List (List Value)} (hown : w.ownsRow 0 e k v n rows.flatten)
    {vx : Value} (hx : a.eval x = vx) {S : Nat → Prop} {rows' : List (List Value)} (hsrc : SlAt w S k vx rows') (h1 : ∀ r ∈ rows', ∀ u ∈ r, u.oneCell' = true)
    (h63 : n + rows'.length ≤ 9223372036854775807) (hbytes : (n + rows'.length) * bytes ≤ 140737488355328)
    (h : ∀ v' w', w'.ownsRow 0 e k v' (n + rows'.length) (rows ++ rows').flatten → w.grownBy w' v.ownBlock → (v' = .slice none 0 0 ↔ v = .slice none 0 0 ∧ rows' = []) →
      (v'.ownBlock = v.ownBlock ∨ v'.ownBlock = some w.heap.size) → wpList P ops Q rest (a.put o.dst v') w') : wpList P ops Q (o :: rest) a w :=
  wpList_plain hgd fun _ hK => oper_app s x t ho hE hs hown hx hsrc h1 h63 hbytes fun v' w' q1 q2 q3 q4 => hK _ _ (h v' w' q1 q2 q3 q4)

theorem owns_open {w : World} {base e k n : Nat} {v : Value} {xs : List Value} (h : w.ownsRow base e k v n xs) : ∃ a c, v = .slice a n c := by
  rcases h.2 with ⟨rfl, rfl⟩ | ⟨g, cap, cur, rfl, _⟩
  · exact ⟨_, _, rfl⟩
  · exact ⟨_, _, rfl⟩

/-- one element more -/
theorem oper_app1 {P : Program} {w : World} {o : Oper} {a : Act} {K : Act → World → Prop} {Q : Exit → Act → World → Prop} (s x : Operand) (t : TypeId)
    (ho : o.op = .call { callee := .builtin .append, args := #[s, x], argTypes := #[t, t] })
    {e : TypeId} {z : Value} {k bytes : Nat} (hE : Elem P t e k bytes z)
    (v : Value) (hs : a.eval s = v) {n : Nat} {rows : List (List Value)} (hown : w.ownsRow 0 e k v n rows.flatten)
    (vx : Value) (hx : a.eval x = vx) {S : Nat → Prop} (r : List Value) (hsrc : SlAt w S k vx [r]) (h1 : ∀ u ∈ r, u.oneCell' = true)
    (h63 : n + 1 ≤ 9223372036854775807) (hbytes : (n + 1) * bytes ≤ 140737488355328)
    (h : ∀ va vc w', w'.ownsRow 0 e k (.slice va (n + 1) vc) (n + 1) (rows ++ [r]).flatten → w.grownBy w' v.ownBlock →
      (Value.ownBlock (.slice va (n + 1) vc) = v.ownBlock ∨ Value.ownBlock (.slice va (n + 1) vc) = some w.heap.size) → K (a.put o.dst (.slice va (n + 1) vc)) w') : o.wp P a w K Q := by
  refine oper_app s x t ho hE hs hown hx hsrc (by intro r' hr; simp at hr; subst hr; exact h1) h63 hbytes fun v' w' q1 q2 _ q4 => ?_
  obtain ⟨va, vc, rfl⟩ := owns_open q1
  exact h va vc w' q1 q2 q4

/-- a new block of rows -/
theorem slat_new {w : World} {e : TypeId} {k m : Nat} {cs : Array Value} (rows : List (List Value)) (hf : cs.toList = rows.flatten) (hk : ∀ r ∈ rows, r.length = k) (hm : m = rows.length) (hb : rows.length ≤ 9223372036854775807) :
    SlAt (w.alloc (.cells cs e)) (fun _ => True) k (.slice (some ⟨w.heap.size, 0, none⟩) m m) rows := by
  subst hm
  refine .inr ⟨_, 0, rows.length, rfl, ⟨trivial, by simp⟩, Nat.le_refl _, hb, fun i hi => ⟨hk _ (nth_mem hi), fun j hj => ?_⟩⟩
  rw [World.cell?_alloc_new, Nat.zero_add, ← Array.getElem?_toList, hf, flatten_get rows hk i j hi hj]

theorem SlAt.one {w : World} {P : Nat → Prop} {k : Nat} {v : Value} {rows : List (List Value)} (h : SlAt w P k v rows) : v.oneCell' = true := by
  rcases h with ⟨rfl, _⟩ | ⟨_, _, _, rfl, _⟩ <;> rfl

/-- an owned row that is empty, just made -/
theorem owns_made0 (w : World) (e k : Nat) : (w.alloc (.cells #[] e)).ownsRow 0 e k (.slice (some ⟨w.heap.size, 0, none⟩) 0 0) 0 (List.flatten []) :=
  World.ownsRow_made w #[] 0 (Nat.zero_le _) (by decide) (by simp)

/-- all old cells and marks read as before -/
theorem bcell {W w1 : World} (hb : Below W.heap.size W w1) : (∀ b o, b < W.heap.size → w1.cell? ⟨b, o, none⟩ = W.cell? ⟨b, o, none⟩) ∧ (∀ b o, b < W.heap.size → w1.frozen? ⟨b, o, none⟩ = W.frozen? ⟨b, o, none⟩) :=
  ⟨fun b o h => hb.cell (p := ⟨b, o, none⟩) h, fun b o h => hb.frozen (p := ⟨b, o, none⟩) h⟩

/-- a block that is known whole, in the form that the walk takes -/
theorem bfacts {w : World} {b : Nat} {c : Array Value} {e : TypeId} (h : w.heap[b]? = some (.cells c e (0, 0))) : (∀ o, w.cell? ⟨b, o, none⟩ = c[o]?) ∧ (∀ o, w.frozen? ⟨b, o, none⟩ = false) ∧ b < w.heap.size :=
  ⟨fun o => by simp [World.cell?, h], fun o => by simp [World.frozen?, h], lt_of_block h⟩

theorem Below.blk {W w1 : World} {b : Nat} {o : Obj} (hb : Below W.heap.size W w1) (h : W.heap[b]? = some o) : w1.heap[b]? = some o := (hb.block b (lt_of_block h)).trans h

theorem Below.step {w W w1 : World} {B : Nat} (h : Below B w W) (hs : B ≤ w.heap.size) (k : Below W.heap.size W w1) : Below B w w1 := h.trans (k.mono (Nat.le_trans hs h.size))

theorem grown_of_below {w w' : World} (h : Below w.heap.size w w') : w.grownBy w' none := ⟨h.os, h.tape, h.output, h.size, fun k hk _ => h.block k hk⟩

theorem owns_below {w w' : World} {base e k n : Nat} {v : Value} {xs : List Value} (h : w.ownsRow base e k v n xs) (hb : Below w.heap.size w w') : w'.ownsRow base e k v n xs :=
  h.kept (grown_of_below hb) (by cases v.ownBlock <;> simp)

theorem owns_lt {w : World} {base e k n : Nat} {v : Value} {xs : List Value} (h : w.ownsRow base e k v n xs) {b : Nat} (hb : v.ownBlock = some b) : b < w.heap.size := (h.lt b hb).2

/-- what is not in the row stays as it was -/
theorem Same.app {w w' : World} {P : Nat → Prop} {v : Value} (h : w.grownBy w' v.ownBlock) (hP : ∀ b, P b → v.ownBlock ≠ some b) : Same P w w' := Same.grown h (fun b hb e => hP b hb e.symm)

theorem Below.of_grown {w w' : World} {row : Option Nat} {B : Nat} (h : w.grownBy w' row) (hB : B ≤ w.heap.size) (hr : ∀ k, row = some k → B ≤ k) : Below B w w' :=
  (Below.refl B w).grown h hB hr


/-- the fact of a new block, and of the one below it -/
theorem two_new (w : World) (o p : Obj) : ((w.alloc o).alloc p).heap[w.heap.size]? = some o ∧ ((w.alloc o).alloc p).heap[w.heap.size + 1]? = some p := by
  refine ⟨(Below.heap_alloc (w.alloc o) p w.heap.size (by simp)).trans (heap_alloc_new w o), ?_⟩
  have := heap_alloc_new (w.alloc o) p
  simp only [World.size_alloc] at this
  exact this

theorem alloc_size (w : World) (o : Obj) : w.heap.size ≤ (w.alloc o).heap.size := by simp

theorem two_size (w : World) (o p : Obj) : w.heap.size + 2 ≤ ((w.alloc o).alloc p).heap.size := by simp

theorem blk_set {w : World} {b : Nat} {c : Array Value} {e : TypeId} {f : Nat × Nat} (h : w.heap[b]? = some (.cells c e f)) (o : Nat) (v : Value) :
    (w.setCell ⟨b, o, none⟩ v).heap[b]? = some (.cells (c.setIfInBounds o v) e f) := by
  simp [World.setCell, Array.getElem?_modify, h]

theorem blk_set_ne {w : World} {b : Nat} {x : Obj} (h : w.heap[b]? = some x) {a : Addr} (hne : b ≠ a.block) (v : Value) : (w.setCell a v).heap[b]? = some x :=
  (Below.heap_setCell w a v b hne).trans h

/-- a call's two boxes are as they were, and all that was there before the call -/
structure Two (w : World) (o p : Obj) (W : World) : Prop where
  below : Below w.heap.size w W
  fst : W.heap[w.heap.size]? = some o
  snd : W.heap[w.heap.size + 1]? = some p
  size : w.heap.size + 2 ≤ W.heap.size
theorem Two.start (w : World) (o p : Obj) : Two w o p ((w.alloc o).alloc p) :=
  ⟨((Below.refl _ w).alloc (Nat.le_refl _) _).alloc (by simp) _, (two_new w o p).1, (two_new w o p).2, by simp⟩
theorem Two.drew {w W : World} {o p : Obj} (h : Two w o p W) : Two w o p W.drew := ⟨h.below.drew, h.fst, h.snd, h.size⟩
theorem Two.step {w W W' : World} {o p : Obj} (h : Two w o p W) (hb : Below W.heap.size W W') : Two w o p W' :=
  ⟨Below.step h.below (Nat.le_refl _) hb, Below.blk hb h.fst, Below.blk hb h.snd, Nat.le_trans h.size hb.size⟩
theorem Two.alloc {w W : World} {o p : Obj} (h : Two w o p W) (q : Obj) : Two w o p (W.alloc q) := h.step ((Below.refl _ W).alloc (Nat.le_refl _) q)
theorem Two.set {w W : World} {o p : Obj} (h : Two w o p W) {a : Addr} (ha : w.heap.size + 2 ≤ a.block) (v : Value) : Two w o p (W.setCell a v) :=
  ⟨h.below.setCell (by omega) v, blk_set_ne h.fst (by omega) v, blk_set_ne h.snd (by omega) v, by have := h.size; simpa using this⟩

theorem grown_set (w : World) (a : Addr) (v : Value) : w.grownBy (w.setCell a v) (some a.block) :=
  ⟨rfl, rfl, rfl, by simp, fun k _ hk => Below.heap_setCell w a v k (fun e => hk (by rw [e]))⟩

/-- two new variables, then a call: their blocks -/
theorem two_blks {w w1 : World} {o p : Obj} (hb : Below ((w.alloc o).alloc p).heap.size ((w.alloc o).alloc p) w1) :
    w1.heap[w.heap.size]? = some o ∧ w1.heap[w.heap.size + 1]? = some p ∧ Below w.heap.size w w1 ∧ w.heap.size + 2 ≤ w1.heap.size :=
  ⟨Below.blk hb (two_new w o p).1, Below.blk hb (two_new w o p).2, Below.step (((Below.refl _ w).alloc (Nat.le_refl _) _).alloc (by simp) _) (Nat.le_refl _) hb, by have := hb.size; simpa using this⟩

/-- two new variables, then a call -/
theorem two_boxes {w w1 : World} {c1 c2 : Array Value} {T1 T2 : TypeId} (hb : Below ((w.alloc (.cells c1 T1)).alloc (.cells c2 T2)).heap.size ((w.alloc (.cells c1 T1)).alloc (.cells c2 T2)) w1) :
    ((∀ o, w1.cell? ⟨w.heap.size, o, none⟩ = c1[o]?) ∧ (∀ o, w1.frozen? ⟨w.heap.size, o, none⟩ = false) ∧ w.heap.size < w1.heap.size) ∧
    ((∀ o, w1.cell? ⟨w.heap.size + 1, o, none⟩ = c2[o]?) ∧ (∀ o, w1.frozen? ⟨w.heap.size + 1, o, none⟩ = false) ∧ w.heap.size + 1 < w1.heap.size) ∧ Below w.heap.size w w1 := by
  have h := two_new w (.cells c1 T1) (.cells c2 T2)
  refine ⟨bfacts (Below.blk hb h.1), bfacts (Below.blk hb h.2), ?_⟩
  exact Below.step (((Below.refl _ w).alloc (Nat.le_refl _) _).alloc (by simp) _) (Nat.le_refl _) hb

theorem below_two (w : World) (o p : Obj) : Below w.heap.size w ((w.alloc o).alloc p) := ((Below.refl _ w).alloc (Nat.le_refl _) _).alloc (by simp) _

end Go.Proofs.Ytplafccjgbeojaa
