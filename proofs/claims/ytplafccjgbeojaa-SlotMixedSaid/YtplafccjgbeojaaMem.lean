/- How the data of the plain model lie in memory: slices, rows, changes, catalogs; what stays when memory grows. -/
import Derived.WalkKit
import Derived.WalkLawsBesides
import Derived.WalkSpells
import Derived.Maps.AppendAt
import Derived.Test.YtplafccjgbeojaaPm
open Go Go.RowKit
namespace Go.Proofs.Ytplafccjgbeojaa
open Pm

/-- the blocks that P names are as they were; no block has gone -/
structure Same (P : Nat → Prop) (w w' : World) : Prop where
  size : w.heap.size ≤ w'.heap.size
  eq : ∀ b, P b → b < w.heap.size → w'.heap[b]? = w.heap[b]?

theorem Same.refl (P : Nat → Prop) (w : World) : Same P w w := ⟨Nat.le_refl _, fun _ _ _ => rfl⟩
theorem Same.of_below {P : Nat → Prop} {w w' : World} (h : Below w.heap.size w w') : Same P w w' := ⟨h.size, fun b _ hb => h.block b hb⟩
theorem Same.trans {P : Nat → Prop} {a b c : World} (h : Same P a b) (k : Same P b c) : Same P a c :=
  ⟨Nat.le_trans h.size k.size, fun x hx hl => (k.eq x hx (Nat.lt_of_lt_of_le hl h.size)).trans (h.eq x hx hl)⟩
theorem Same.cell {P : Nat → Prop} {w w' : World} (h : Same P w w') {b o : Nat} {v : Value} (hb : P b) (hc : w.cell? ⟨b, o, none⟩ = some v) : w'.cell? ⟨b, o, none⟩ = some v :=
  (World.cell?_of_block (h.eq b hb (World.block_lt_of_cell? w _ hc))).trans hc
theorem Same.set {P : Nat → Prop} {w w' : World} (h : Same P w w') {a : Addr} (hp : ¬ P a.block) (v : Value) : Same P w (w'.setCell a v) :=
  ⟨by simpa using h.size, fun b hb hl => (Below.heap_setCell w' a v b (fun e => hp (e ▸ hb))).trans (h.eq b hb hl)⟩
theorem Same.alloc {P : Nat → Prop} {w w' : World} (h : Same P w w') (o : Obj) : Same P w (w'.alloc o) :=
  ⟨by have := h.size; simp; omega, fun b hb hl => (Below.heap_alloc w' o b (Nat.lt_of_lt_of_le hl h.size)).trans (h.eq b hb hl)⟩
theorem Same.drew {P : Nat → Prop} {w w' : World} (h : Same P w w') : Same P w w'.drew := ⟨h.size, h.eq⟩
theorem Same.drewN {P : Nat → Prop} {w w' : World} (h : Same P w w') (n : Nat) : Same P w (w'.drewN n) := ⟨h.size, h.eq⟩
theorem Same.mono {P Q : Nat → Prop} {w w' : World} (h : Same Q w w') (hPQ : ∀ b, P b → Q b) : Same P w w' := ⟨h.size, fun b hb hl => h.eq b (hPQ b hb) hl⟩
theorem Same.grown {P : Nat → Prop} {w w' : World} {row : Option Nat} (h : w.grownBy w' row) (hP : ∀ b, P b → some b ≠ row) : Same P w w' := ⟨h.size, fun b hb hl => h.block b hl (hP b hb)⟩
theorem Same.blk {P : Nat → Prop} {w w' : World} (h : Same P w w') {b : Nat} {o : Obj} (hb : P b) (hc : w.heap[b]? = some o) : w'.heap[b]? = some o := (h.eq b hb (lt_of_block hc)).trans hc

/-- what is new -/
abbrev Fresh (w : World) (b : Nat) : Prop := w.heap.size ≤ b

/-- A slice whose elements of k cells each hold the given rows; its block is one that P names. -/
def SlAt (w : World) (P : Nat → Prop) (k : Nat) (v : Value) (rows : List (List Value)) : Prop :=
  (v = .slice none 0 0 ∧ rows = []) ∨ ∃ b off cap, v = .slice (some ⟨b, off, none⟩) rows.length cap ∧ (P b ∧ b < w.heap.size) ∧ rows.length ≤ cap ∧ cap ≤ 9223372036854775807 ∧
    ∀ i, i < rows.length → (nth rows [] i).length = k ∧ ∀ j, j < k → w.cell? ⟨b, off + i * k + j, none⟩ = (nth rows [] i)[j]?

theorem SlAt.nil (w : World) (P : Nat → Prop) (k : Nat) : SlAt w P k (.slice none 0 0) [] := .inl ⟨rfl, rfl⟩

theorem SlAt.frame {w w' : World} {P : Nat → Prop} {k : Nat} {v : Value} {rows : List (List Value)} (h : SlAt w P k v rows) (hs : Same P w w') : SlAt w' P k v rows := by
  rcases h with h | ⟨b, off, cap, hv, hP, h1, h2, h3⟩
  · exact .inl h
  · refine .inr ⟨b, off, cap, hv, ⟨hP.1, Nat.lt_of_lt_of_le hP.2 hs.size⟩, h1, h2, fun i hi => ⟨(h3 i hi).1, fun j hj => ?_⟩⟩
    have hc := (h3 i hi).2 j hj
    have hl : j < (nth rows [] i).length := by rw [(h3 i hi).1]; exact hj
    rw [List.getElem?_eq_getElem hl] at hc ⊢
    exact hs.cell hP.1 hc

theorem SlAt.mono {w : World} {P Q : Nat → Prop} {k : Nat} {v : Value} {rows : List (List Value)} (h : SlAt w P k v rows) (hPQ : ∀ b, P b → b < w.heap.size → Q b) : SlAt w Q k v rows := by
  rcases h with h | ⟨b, off, cap, hv, hP, rest⟩
  · exact .inl h
  · exact .inr ⟨b, off, cap, hv, ⟨hPQ b hP.1 hP.2, hP.2⟩, rest⟩

/-- a cell of an element -/
theorem SlAt.cell {w : World} {P : Nat → Prop} {k : Nat} {b off n cap : Nat} {rows : List (List Value)} (h : SlAt w P k (.slice (some ⟨b, off, none⟩) n cap) rows)
    {i j : Nat} {x : Value} (hi : i < rows.length) (hj : (nth rows [] i)[j]? = some x) : w.cell? ⟨b, off + i * k + j, none⟩ = some x := by
  rcases h with ⟨h, _⟩ | ⟨b', off', cap', hv, hP, h1, h2, h3⟩
  · simp at h
  · simp only [Value.slice.injEq, Option.some.injEq, Addr.mk.injEq, and_true] at hv
    obtain ⟨⟨rfl, rfl⟩, hn, rfl⟩ := hv
    have := (h3 i hi).2 j (by rw [← (h3 i hi).1]; exact (List.getElem?_eq_some_iff.1 hj).1)
    rw [this, hj]

/-- the form in which a walk takes a slice: nil, or at an address -/
theorem SlAt.open {w : World} {P : Nat → Prop} {k : Nat} {v : Value} {rows : List (List Value)} (h : SlAt w P k v rows) :
    ∃ (a : Option Addr) (cap : Nat), v = .slice a rows.length cap ∧ rows.length ≤ cap ∧ cap ≤ 9223372036854775807 ∧ (rows = [] ∧ a = none ∧ cap = 0 ∨ ∃ b off, a = some ⟨b, off, none⟩ ∧ P b ∧ b < w.heap.size) := by
  rcases h with ⟨rfl, rfl⟩ | ⟨b, off, cap, hv, hP, h1, h2, _⟩
  · exact ⟨none, 0, rfl, Nat.le_refl _, by decide, .inl ⟨rfl, rfl, rfl⟩⟩
  · exact ⟨_, cap, hv, h1, h2, .inr ⟨b, off, rfl, hP⟩⟩

theorem SlAt.len {w : World} {P : Nat → Prop} {k : Nat} {v : Value} {rows : List (List Value)} (h : SlAt w P k v rows) : rows.length ≤ 9223372036854775807 := by
  obtain ⟨a, cap, _, h1, h2, _⟩ := h.open; omega

theorem flatten_get {k : Nat} : ∀ (rows : List (List Value)), (∀ r ∈ rows, r.length = k) → ∀ i j, i < rows.length → j < k → rows.flatten[i * k + j]? = (nth rows [] i)[j]?
  | [], _, i, j, hi, _ => by simp at hi
  | r :: rs, h, i, j, hi, hj => by
    have hr : r.length = k := h r (by simp)
    match i with
    | 0 => simp only [Nat.zero_mul, Nat.zero_add, List.flatten_cons]; rw [List.getElem?_append_left (by omega)]; rfl
    | i + 1 =>
      have := flatten_get rs (fun r hr => h r (by simp [hr])) i j (by simpa using hi) hj
      have e : (i + 1) * k + j = r.length + (i * k + j) := by rw [hr, Nat.succ_mul]; omega
      rw [List.flatten_cons, e, List.getElem?_append_right (by omega), Nat.add_sub_cancel_left, this]
      simp [nth]

theorem length_flatten {k : Nat} : ∀ (rows : List (List Value)), (∀ r ∈ rows, r.length = k) → rows.flatten.length = rows.length * k
  | [], _ => by simp
  | r :: rs, h => by
    rw [List.flatten_cons, List.length_append, h r (by simp), length_flatten rs (fun r hr => h r (by simp [hr])), List.length_cons, Nat.succ_mul]; omega

/-- An owned row is a slice with those elements. -/
theorem SlAt.of_owns {w : World} {P : Nat → Prop} {base e k n : Nat} {v : Value} {rows : List (List Value)} (hown : w.ownsRow base e k v n rows.flatten) (hn : n = rows.length)
    (hk : ∀ r ∈ rows, r.length = k) (hP : ∀ b, v.ownBlock = some b → P b) : SlAt w P k v rows := by
  subst hn
  rcases hown.2 with ⟨rfl, h0⟩ | ⟨g, cap, cur, rfl, hb, hg, hnc, hcm, hcs, htake⟩
  · exact .inl ⟨rfl, List.eq_nil_of_length_eq_zero h0⟩
  · refine .inr ⟨g, 0, cap, rfl, ⟨hP g rfl, lt_of_block hg⟩, hnc, by unfold maxLen at hcm; omega, fun i hi => ?_⟩
    have hrow : (nth rows [] i).length = k := hk _ (nth_mem hi)
    refine ⟨hrow, fun j hj => ?_⟩
    have hlt : i * k + j < rows.length * k := by
      have : (i + 1) * k ≤ rows.length * k := Nat.mul_le_mul_right _ hi
      rw [Nat.succ_mul] at this; omega
    rw [Nat.zero_add, hown.cellAt _ hlt, flatten_get rows hk i j hi hj]

/-- Two lists go together, element by element. -/
def Rel₂ {α β : Type} (R : α → β → Prop) (da : α) (db : β) (xs : List α) (ys : List β) : Prop :=
  xs.length = ys.length ∧ ∀ i, i < ys.length → R (nth xs da i) (nth ys db i)

section
variable {α β : Type} {R S : α → β → Prop} {da : α} {db : β} {xs : List α} {ys : List β}
theorem Rel₂.nil : Rel₂ R da db [] [] := ⟨rfl, fun i hi => by simp at hi⟩
theorem Rel₂.imp (h : Rel₂ R da db xs ys) (hRS : ∀ a b, R a b → S a b) : Rel₂ S da db xs ys := ⟨h.1, fun i hi => hRS _ _ (h.2 i hi)⟩
theorem Rel₂.snoc (h : Rel₂ R da db xs ys) {a : α} {b : β} (hab : R a b) : Rel₂ R da db (xs ++ [a]) (ys ++ [b]) := by
  refine ⟨by simp [h.1], fun i hi => ?_⟩
  rcases Nat.lt_or_ge i ys.length with hl | hg
  · rw [nth_append_left hl, nth_append_left (by rw [h.1]; exact hl)]; exact h.2 i hl
  · have : i = ys.length := by simp at hi; omega
    subst this
    rw [nth_append_right (Nat.le_refl _), nth_append_right (by rw [h.1]; exact Nat.le_refl _), h.1]
    simpa [nth] using hab
theorem Rel₂.set (h : Rel₂ R da db xs ys) {i : Nat} {a : α} {b : β} (hab : R a b) : Rel₂ R da db (xs.set i a) (ys.set i b) := by
  refine ⟨by simp [h.1], fun j hj => ?_⟩
  have hj' : j < ys.length := by simpa using hj
  by_cases e : i = j
  · subst e
    rw [nth_set_eq hj', nth_set_eq (by rw [h.1]; exact hj')]; exact hab
  · rw [nth_set_ne e, nth_set_ne e]; exact h.2 j hj'
theorem Rel₂.take (h : Rel₂ R da db xs ys) (n : Nat) : Rel₂ R da db (xs.take n) (ys.take n) := by
  refine ⟨by simp [h.1], fun j hj => ?_⟩
  have hj' : j < n ∧ j < ys.length := by simpa [List.length_take, Nat.lt_min] using hj
  have e1 : nth (ys.take n) db j = nth ys db j := by rw [nth_eq hj, nth_eq hj'.2]; simp
  have e2 : nth (xs.take n) da j = nth xs da j := by rw [nth_eq (by simp [h.1]; omega), nth_eq (by rw [h.1]; exact hj'.2)]; simp
  rw [e1, e2]; exact h.2 j hj'.2
end

/-! ### what the slices hold -/
def cInt (x : Int) : List Value := [.int .i64 x]
def cStr (s : ByteArray) : List Value := [.string s]
def cCol (c : Col) : List Value := [.string c.name, .int .i64 c.kind]
def cVal (v : Val) : List Value := [.int .i64 v.kind, .int .i64 v.n, .string v.s]

def IntsAt (w : World) (P : Nat → Prop) (v : Value) (l : List Int) : Prop := SlAt w P 1 v (l.map cInt)
def StrsAt (w : World) (P : Nat → Prop) (v : Value) (l : List ByteArray) : Prop := SlAt w P 1 v (l.map cStr)
def ColsAt (w : World) (P : Nat → Prop) (v : Value) (l : List Col) : Prop := SlAt w P 2 v (l.map cCol)
def RowAt (w : World) (P : Nat → Prop) (v : Value) (l : List Val) : Prop := SlAt w P 3 v (l.map cVal)

def IdxRow (w : World) (P : Nat → Prop) (r : List Value) (x : Idx) : Prop := ∃ a n c, r = [.string x.name, .slice a n c, .int .i64 x.root] ∧ IntsAt w P (.slice a n c) x.cols
def IdxsAt (w : World) (P : Nat → Prop) (v : Value) (l : List Idx) : Prop := ∃ rows, SlAt w P 3 v rows ∧ Rel₂ (IdxRow w P) [] dIdx rows l
def TabRow (w : World) (P : Nat → Prop) (r : List Value) (t : Tab) : Prop :=
  ∃ a n c a' n' c', r = [.int .i64 t.id, .string t.name, .slice a n c, .slice a' n' c'] ∧ ColsAt w P (.slice a n c) t.cols ∧ IdxsAt w P (.slice a' n' c') t.idx
def TabsAt (w : World) (P : Nat → Prop) (v : Value) (l : List Tab) : Prop := ∃ rows, SlAt w P 4 v rows ∧ Rel₂ (TabRow w P) [] dTab rows l
def ChangeRow (w : World) (P : Nat → Prop) (r : List Value) (c : Change) : Prop :=
  ∃ a n k a' n' k' a'' n'' k'', r = [.int .i64 c.kind, .string c.table, .slice a n k, .slice a' n' k', .slice a'' n'' k''] ∧
    StrsAt w P (.slice a n k) c.names ∧ RowAt w P (.slice a' n' k') c.old ∧ RowAt w P (.slice a'' n'' k'') c.new
def ChangesAt (w : World) (P : Nat → Prop) (v : Value) (l : List Change) : Prop := ∃ rows, SlAt w P 5 v rows ∧ Rel₂ (ChangeRow w P) [] dChange rows l
def TurnRow (w : World) (P : Nat → Prop) (r : List Value) (t : Turn) : Prop := ∃ rc, r = .int .i64 t.lsn :: rc ∧ ChangeRow w P rc t.ch
def TxnRow (w : World) (P : Nat → Prop) (r : List Value) (t : Txn) : Prop := ∃ a n c, r = [.int .i64 t.lsn, .slice a n c] ∧ ChangesAt w P (.slice a n c) t.chs
def TxnsAt (w : World) (P : Nat → Prop) (v : Value) (l : List Txn) : Prop := ∃ rows, SlAt w P 2 v rows ∧ Rel₂ (TxnRow w P) [] dTxn rows l
def DoneRow (w : World) (P : Nat → Prop) (r : List Value) (d : Done) : Prop := ∃ rt, r = .int .i64 d.first :: rt ∧ TxnRow w P rt d.told

section
variable {w w' : World} {P Q : Nat → Prop} {v : Value} {r : List Value}
theorem IntsAt.frame {l : List Int} (h : IntsAt w P v l) (hs : Same P w w') : IntsAt w' P v l := SlAt.frame h hs
theorem StrsAt.frame {l : List ByteArray} (h : StrsAt w P v l) (hs : Same P w w') : StrsAt w' P v l := SlAt.frame h hs
theorem ColsAt.frame {l : List Col} (h : ColsAt w P v l) (hs : Same P w w') : ColsAt w' P v l := SlAt.frame h hs
theorem RowAt.frame {l : List Val} (h : RowAt w P v l) (hs : Same P w w') : RowAt w' P v l := SlAt.frame h hs
theorem IdxRow.frame {x : Idx} (h : IdxRow w P r x) (hs : Same P w w') : IdxRow w' P r x := by
  obtain ⟨a, n, c, h1, h2⟩ := h; exact ⟨a, n, c, h1, h2.frame hs⟩
theorem IdxsAt.frame {l : List Idx} (h : IdxsAt w P v l) (hs : Same P w w') : IdxsAt w' P v l := by
  obtain ⟨rows, h1, h2⟩ := h; exact ⟨rows, h1.frame hs, h2.imp fun _ _ k => k.frame hs⟩
theorem TabRow.frame {x : Tab} (h : TabRow w P r x) (hs : Same P w w') : TabRow w' P r x := by
  obtain ⟨a, n, c, a', n', c', h1, h2, h3⟩ := h; exact ⟨a, n, c, a', n', c', h1, h2.frame hs, h3.frame hs⟩
theorem TabsAt.frame {l : List Tab} (h : TabsAt w P v l) (hs : Same P w w') : TabsAt w' P v l := by
  obtain ⟨rows, h1, h2⟩ := h; exact ⟨rows, h1.frame hs, h2.imp fun _ _ k => k.frame hs⟩
theorem ChangeRow.frame {x : Change} (h : ChangeRow w P r x) (hs : Same P w w') : ChangeRow w' P r x := by
  obtain ⟨a, n, k, a', n', k', a'', n'', k'', h1, h2, h3, h4⟩ := h; exact ⟨a, n, k, a', n', k', a'', n'', k'', h1, h2.frame hs, h3.frame hs, h4.frame hs⟩
theorem ChangesAt.frame {l : List Change} (h : ChangesAt w P v l) (hs : Same P w w') : ChangesAt w' P v l := by
  obtain ⟨rows, h1, h2⟩ := h; exact ⟨rows, h1.frame hs, h2.imp fun _ _ k => k.frame hs⟩
theorem TurnRow.frame {x : Turn} (h : TurnRow w P r x) (hs : Same P w w') : TurnRow w' P r x := by
  obtain ⟨a, h1, h2⟩ := h; exact ⟨a, h1, h2.frame hs⟩
theorem TxnRow.frame {x : Txn} (h : TxnRow w P r x) (hs : Same P w w') : TxnRow w' P r x := by
  obtain ⟨a, n, c, h1, h2⟩ := h; exact ⟨a, n, c, h1, h2.frame hs⟩
theorem TxnsAt.frame {l : List Txn} (h : TxnsAt w P v l) (hs : Same P w w') : TxnsAt w' P v l := by
  obtain ⟨rows, h1, h2⟩ := h; exact ⟨rows, h1.frame hs, h2.imp fun _ _ k => k.frame hs⟩
theorem DoneRow.frame {x : Done} (h : DoneRow w P r x) (hs : Same P w w') : DoneRow w' P r x := by
  obtain ⟨a, h1, h2⟩ := h; exact ⟨a, h1, h2.frame hs⟩

theorem IntsAt.mono {l : List Int} (h : IntsAt w P v l) (hs : ∀ b, P b → b < w.heap.size → Q b) : IntsAt w Q v l := SlAt.mono h hs
theorem StrsAt.mono {l : List ByteArray} (h : StrsAt w P v l) (hs : ∀ b, P b → b < w.heap.size → Q b) : StrsAt w Q v l := SlAt.mono h hs
theorem ColsAt.mono {l : List Col} (h : ColsAt w P v l) (hs : ∀ b, P b → b < w.heap.size → Q b) : ColsAt w Q v l := SlAt.mono h hs
theorem RowAt.mono {l : List Val} (h : RowAt w P v l) (hs : ∀ b, P b → b < w.heap.size → Q b) : RowAt w Q v l := SlAt.mono h hs
theorem IdxRow.mono {x : Idx} (h : IdxRow w P r x) (hs : ∀ b, P b → b < w.heap.size → Q b) : IdxRow w Q r x := by
  obtain ⟨a, n, c, h1, h2⟩ := h; exact ⟨a, n, c, h1, h2.mono hs⟩
theorem IdxsAt.mono {l : List Idx} (h : IdxsAt w P v l) (hs : ∀ b, P b → b < w.heap.size → Q b) : IdxsAt w Q v l := by
  obtain ⟨rows, h1, h2⟩ := h; exact ⟨rows, h1.mono hs, h2.imp fun _ _ k => k.mono hs⟩
theorem TabRow.mono {x : Tab} (h : TabRow w P r x) (hs : ∀ b, P b → b < w.heap.size → Q b) : TabRow w Q r x := by
  obtain ⟨a, n, c, a', n', c', h1, h2, h3⟩ := h; exact ⟨a, n, c, a', n', c', h1, h2.mono hs, h3.mono hs⟩
theorem TabsAt.mono {l : List Tab} (h : TabsAt w P v l) (hs : ∀ b, P b → b < w.heap.size → Q b) : TabsAt w Q v l := by
  obtain ⟨rows, h1, h2⟩ := h; exact ⟨rows, h1.mono hs, h2.imp fun _ _ k => k.mono hs⟩
theorem ChangeRow.mono {x : Change} (h : ChangeRow w P r x) (hs : ∀ b, P b → b < w.heap.size → Q b) : ChangeRow w Q r x := by
  obtain ⟨a, n, k, a', n', k', a'', n'', k'', h1, h2, h3, h4⟩ := h; exact ⟨a, n, k, a', n', k', a'', n'', k'', h1, h2.mono hs, h3.mono hs, h4.mono hs⟩
theorem ChangesAt.mono {l : List Change} (h : ChangesAt w P v l) (hs : ∀ b, P b → b < w.heap.size → Q b) : ChangesAt w Q v l := by
  obtain ⟨rows, h1, h2⟩ := h; exact ⟨rows, h1.mono hs, h2.imp fun _ _ k => k.mono hs⟩
theorem TurnRow.mono {x : Turn} (h : TurnRow w P r x) (hs : ∀ b, P b → b < w.heap.size → Q b) : TurnRow w Q r x := by
  obtain ⟨a, h1, h2⟩ := h; exact ⟨a, h1, h2.mono hs⟩
theorem TxnRow.mono {x : Txn} (h : TxnRow w P r x) (hs : ∀ b, P b → b < w.heap.size → Q b) : TxnRow w Q r x := by
  obtain ⟨a, n, c, h1, h2⟩ := h; exact ⟨a, n, c, h1, h2.mono hs⟩
theorem TxnsAt.mono {l : List Txn} (h : TxnsAt w P v l) (hs : ∀ b, P b → b < w.heap.size → Q b) : TxnsAt w Q v l := by
  obtain ⟨rows, h1, h2⟩ := h; exact ⟨rows, h1.mono hs, h2.imp fun _ _ k => k.mono hs⟩
theorem DoneRow.mono {x : Done} (h : DoneRow w P r x) (hs : ∀ b, P b → b < w.heap.size → Q b) : DoneRow w Q r x := by
  obtain ⟨a, h1, h2⟩ := h; exact ⟨a, h1, h2.mono hs⟩
end


/-- what rows hold, kept while memory grows -/
structure Framed {β : Type} (R : World → (Nat → Prop) → List Value → β → Prop) : Prop where
  frame : ∀ {w w' : World} {P : Nat → Prop} {r : List Value} {y : β}, R w P r y → Same P w w' → R w' P r y
  mono : ∀ {w : World} {P Q : Nat → Prop} {r : List Value} {y : β}, R w P r y → (∀ b, P b → b < w.heap.size → Q b) → R w Q r y

theorem framed_idx : Framed IdxRow := ⟨fun h hs => h.frame hs, fun h hs => h.mono hs⟩
theorem framed_tab : Framed TabRow := ⟨fun h hs => h.frame hs, fun h hs => h.mono hs⟩
theorem framed_change : Framed ChangeRow := ⟨fun h hs => h.frame hs, fun h hs => h.mono hs⟩
theorem framed_turn : Framed TurnRow := ⟨fun h hs => h.frame hs, fun h hs => h.mono hs⟩
theorem framed_txn : Framed TxnRow := ⟨fun h hs => h.frame hs, fun h hs => h.mono hs⟩
theorem framed_done : Framed DoneRow := ⟨fun h hs => h.frame hs, fun h hs => h.mono hs⟩
/-- rows that hold nothing but their cells -/
theorem framed_eq {β : Type} (f : β → List Value) : Framed (fun _ _ r y => r = f y) := ⟨fun h _ => h, fun h _ => h⟩

/-- A slice of the call's own that is gathered: n elements so far, the list ys; what its rows lead to lies in blocks of the call's own, apart from its own row. -/
def Coll {β : Type} (w0 : World) (e k : Nat) (R : World → (Nat → Prop) → List Value → β → Prop) (d : β) (ys : List β) (n : Nat) (out : Value) (wr : World) : Prop :=
  ∃ ao cp rs, out = .slice ao n cp ∧ wr.ownsRow 0 e k (.slice ao n cp) n (List.flatten rs) ∧ (n = rs.length ∧ ∀ r ∈ rs, r.length = k) ∧ (∀ b, Value.ownBlock (.slice ao n cp) = some b → w0.heap.size ≤ b) ∧
    Rel₂ (R wr (fun b => w0.heap.size ≤ b ∧ Value.ownBlock (.slice ao n cp) ≠ some b)) [] d rs ys ∧ Below w0.heap.size w0 wr

section
variable {β : Type} {w0 wr w1 w2 : World} {e k : Nat} {R : World → (Nat → Prop) → List Value → β → Prop} {d : β} {ys : List β} {n : Nat} {out : Value}

theorem Coll.start (w0 : World) (e k : Nat) (R : World → (Nat → Prop) → List Value → β → Prop) (d : β) : Coll w0 e k R d [] 0 (.slice none 0 0) w0 :=
  ⟨none, 0, [], rfl, World.ownsRow_nil _ _ _ _, ⟨rfl, by simp⟩, by simp [Value.ownBlock], Rel₂.nil, Below.refl _ _⟩

theorem Coll.open (h : Coll w0 e k R d ys n out wr) : ∃ a c, out = .slice a n c := by
  obtain ⟨a, c, _, h, _⟩ := h; exact ⟨a, c, h⟩

theorem Coll.below (h : Coll w0 e k R d ys n out wr) : Below w0.heap.size w0 wr := by
  obtain ⟨_, _, _, _, _, _, _, _, h⟩ := h; exact h

/-- what the call does elsewhere keeps it -/
theorem Coll.kept (hF : Framed R) (h : Coll w0 e k R d ys n out wr) (hb : Below wr.heap.size wr w1) : Coll w0 e k R d ys n out w1 := by
  obtain ⟨ao, cp, rs, rfl, h1, h2, h3, h4, h5⟩ := h
  exact ⟨ao, cp, rs, rfl, h1.kept ⟨hb.os, hb.tape, hb.output, hb.size, fun k hk _ => hb.block k hk⟩ (row := none) (by cases Value.ownBlock (.slice ao n cp) <;> simp), h2, h3,
    h4.imp fun _ _ h => hF.frame h (Same.of_below hb), h5.trans (hb.mono h5.size)⟩

/-- the row as append's laws take it -/
theorem Coll.owns (h : Coll w0 e k R d ys n out wr) : ∃ rs, wr.ownsRow 0 e k out n (List.flatten rs) ∧ (n = rs.length ∧ ∀ r ∈ rs, r.length = k) ∧
    (∀ b, out.ownBlock = some b → w0.heap.size ≤ b) ∧ Rel₂ (R wr (fun b => w0.heap.size ≤ b ∧ out.ownBlock ≠ some b)) [] d rs ys := by
  obtain ⟨ao, cp, rs, rfl, h1, h2, h3, h4, h5⟩ := h
  exact ⟨rs, h1, h2, h3, h4⟩

/-- one element more: behind append's law -/
theorem Coll.snoc (hF : Framed R) {rs : List (List Value)} (hk : n = rs.length ∧ ∀ r ∈ rs, r.length = k) (hfr : ∀ b, out.ownBlock = some b → w0.heap.size ≤ b)
    (hrel : Rel₂ (R w1 (fun b => w0.heap.size ≤ b ∧ out.ownBlock ≠ some b)) [] d rs ys) (hb : Below w0.heap.size w0 w1)
    {r : List Value} {y : β} (hr : R w1 (fun b => w0.heap.size ≤ b ∧ out.ownBlock ≠ some b) r y) (hrk : r.length = k)
    {v' : Value} (hown : w2.ownsRow 0 e k v' (n + 1) (List.flatten (rs ++ [r]))) (hg : w1.grownBy w2 out.ownBlock) (hl : v'.ownBlock = out.ownBlock ∨ v'.ownBlock = some w1.heap.size) :
    Coll w0 e k R d (ys ++ [y]) (n + 1) v' w2 := by
  have hv : ∃ a c, v' = .slice a (n + 1) c := by
    rcases hown.2 with ⟨_, h0⟩ | ⟨g, cap, cur, rfl, _⟩
    · omega
    · exact ⟨_, _, rfl⟩
  obtain ⟨a, c, rfl⟩ := hv
  have hmv : ∀ {x : List Value} {z : β}, R w1 (fun b => w0.heap.size ≤ b ∧ out.ownBlock ≠ some b) x z → R w2 (fun b => w0.heap.size ≤ b ∧ Value.ownBlock (.slice a (n + 1) c) ≠ some b) x z := fun h => by
    have hm := hF.mono h (Q := fun b => (w0.heap.size ≤ b ∧ Value.ownBlock (.slice a (n + 1) c) ≠ some b) ∧ out.ownBlock ≠ some b) (fun b hb hlt => by
      refine ⟨⟨hb.1, ?_⟩, hb.2⟩
      rcases hl with hl | hl
      · rw [hl]; exact hb.2
      · rw [hl]; intro e; simp at e; omega)
    have := hF.frame hm (Same.grown hg (fun b hb e => hb.2 e.symm))
    exact hF.mono this fun b hb _ => hb.1
  refine ⟨a, c, rs ++ [r], rfl, hown, ⟨by simp [hk.1], ?_⟩, ?_, ?_, ?_⟩
  · intro x hx
    rcases List.mem_append.1 hx with hx | hx
    · exact hk.2 x hx
    · simp at hx; subst hx; exact hrk
  · intro b hb'
    rcases hl with hl | hl
    · exact hfr b (hl ▸ hb')
    · rw [hl] at hb'; simp at hb'; subst hb'; exact hb.size
  · exact (hrel.imp fun _ _ h => hmv h).snoc (hmv hr)
  · exact hb.trans ⟨hg.os, hg.tape, hg.output, hg.size, fun j hj => hg.block j (by have := hb.size; omega) (fun e => by have := hfr j e.symm; omega)⟩

/-- what is handed back -/
theorem Coll.done (hF : Framed R) (h : Coll w0 e k R d ys n out wr) : ∃ rows, SlAt wr (Fresh w0) k out rows ∧ Rel₂ (R wr (Fresh w0)) [] d rows ys := by
  obtain ⟨ao, cp, rs, rfl, h1, h2, h3, h4, h5⟩ := h
  exact ⟨rs, SlAt.of_owns h1 h2.1 h2.2 h3, h4.imp fun _ _ h => hF.mono h fun b hb _ => hb.1⟩
end

/-- The same, gathered in a cell of block X. -/
def CollX {β : Type} (X : Nat) (w0 : World) (e k : Nat) (R : World → (Nat → Prop) → List Value → β → Prop) (d : β) (ys : List β) (n : Nat) (out : Value) (wr : World) : Prop :=
  ∃ ao cp rs, out = .slice ao n cp ∧ wr.ownsRow 0 e k (.slice ao n cp) n (List.flatten rs) ∧ (n = rs.length ∧ ∀ r ∈ rs, r.length = k) ∧ (∀ b, Value.ownBlock (.slice ao n cp) = some b → w0.heap.size ≤ b) ∧
    Rel₂ (R wr (fun b => w0.heap.size ≤ b ∧ Value.ownBlock (.slice ao n cp) ≠ some b)) [] d rs ys ∧ w0.grownBy wr (some X)

section
variable {β : Type} {X : Nat} {w0 wr w1 w2 : World} {e k : Nat} {R : World → (Nat → Prop) → List Value → β → Prop} {d : β} {ys : List β} {n : Nat} {out : Value}

theorem CollX.start (X : Nat) (w0 : World) (e k : Nat) (R : World → (Nat → Prop) → List Value → β → Prop) (d : β) : CollX X w0 e k R d [] 0 (.slice none 0 0) w0 :=
  ⟨none, 0, [], rfl, World.ownsRow_nil _ _ _ _, ⟨rfl, by simp⟩, by simp [Value.ownBlock], Rel₂.nil, rfl, rfl, rfl, Nat.le_refl _, fun _ _ _ => rfl⟩

theorem CollX.grown (h : CollX X w0 e k R d ys n out wr) : w0.grownBy wr (some X) := by
  obtain ⟨_, _, _, _, _, _, _, _, h⟩ := h; exact h

theorem CollX.kept (hF : Framed R) (h : CollX X w0 e k R d ys n out wr) (hb : Below wr.heap.size wr w1) : CollX X w0 e k R d ys n out w1 := by
  obtain ⟨ao, cp, rs, rfl, h1, h2, h3, h4, h5⟩ := h
  exact ⟨ao, cp, rs, rfl, h1.kept ⟨hb.os, hb.tape, hb.output, hb.size, fun k hk _ => hb.block k hk⟩ (row := none) (by cases Value.ownBlock (.slice ao n cp) <;> simp), h2, h3,
    h4.imp fun _ _ h => hF.frame h (Same.of_below hb), hb.os.trans h5.os, hb.tape.trans h5.tape, hb.output.trans h5.output, Nat.le_trans h5.size hb.size, fun j hj hn => (hb.block j (Nat.lt_of_lt_of_le hj h5.size)).trans (h5.block j hj hn)⟩

theorem CollX.owns (h : CollX X w0 e k R d ys n out wr) : ∃ rs, wr.ownsRow 0 e k out n (List.flatten rs) ∧ (n = rs.length ∧ ∀ r ∈ rs, r.length = k) ∧
    (∀ b, out.ownBlock = some b → w0.heap.size ≤ b) ∧ Rel₂ (R wr (fun b => w0.heap.size ≤ b ∧ out.ownBlock ≠ some b)) [] d rs ys := by
  obtain ⟨ao, cp, rs, rfl, h1, h2, h3, h4, h5⟩ := h
  exact ⟨rs, h1, h2, h3, h4⟩

theorem CollX.snoc (hF : Framed R) {rs : List (List Value)} (hk : n = rs.length ∧ ∀ r ∈ rs, r.length = k) (hfr : ∀ b, out.ownBlock = some b → w0.heap.size ≤ b)
    (hrel : Rel₂ (R w1 (fun b => w0.heap.size ≤ b ∧ out.ownBlock ≠ some b)) [] d rs ys) (hb : w0.grownBy w1 (some X))
    {r : List Value} {y : β} (hr : R w1 (fun b => w0.heap.size ≤ b ∧ out.ownBlock ≠ some b) r y) (hrk : r.length = k)
    {v' : Value} (hown : w2.ownsRow 0 e k v' (n + 1) (List.flatten (rs ++ [r]))) (hg : w1.grownBy w2 out.ownBlock) (hl : v'.ownBlock = out.ownBlock ∨ v'.ownBlock = some w1.heap.size) :
    CollX X w0 e k R d (ys ++ [y]) (n + 1) v' w2 := by
  have hv : ∃ a c, v' = .slice a (n + 1) c := by
    rcases hown.2 with ⟨_, h0⟩ | ⟨g, cap, cur, rfl, _⟩
    · omega
    · exact ⟨_, _, rfl⟩
  obtain ⟨a, c, rfl⟩ := hv
  have hmv : ∀ {x : List Value} {z : β}, R w1 (fun b => w0.heap.size ≤ b ∧ out.ownBlock ≠ some b) x z → R w2 (fun b => w0.heap.size ≤ b ∧ Value.ownBlock (.slice a (n + 1) c) ≠ some b) x z := fun h => by
    have hm := hF.mono h (Q := fun b => (w0.heap.size ≤ b ∧ Value.ownBlock (.slice a (n + 1) c) ≠ some b) ∧ out.ownBlock ≠ some b) (fun b hb hlt => by
      refine ⟨⟨hb.1, ?_⟩, hb.2⟩
      rcases hl with hl | hl
      · rw [hl]; exact hb.2
      · rw [hl]; intro e; simp at e; omega)
    have := hF.frame hm (Same.grown hg (fun b hb e => hb.2 e.symm))
    exact hF.mono this fun b hb _ => hb.1
  refine ⟨a, c, rs ++ [r], rfl, hown, ⟨by simp [hk.1], ?_⟩, ?_, ?_, ?_⟩
  · intro x hx
    rcases List.mem_append.1 hx with hx | hx
    · exact hk.2 x hx
    · simp at hx; subst hx; exact hrk
  · intro b hb'
    rcases hl with hl | hl
    · exact hfr b (hl ▸ hb')
    · rw [hl] at hb'; simp at hb'; subst hb'; exact hb.size
  · exact (hrel.imp fun _ _ h => hmv h).snoc (hmv hr)
  · exact ⟨hg.os.trans hb.os, hg.tape.trans hb.tape, hg.output.trans hb.output, Nat.le_trans hb.size hg.size, fun j hj hn => (hg.block j (by have := hb.size; omega) (fun e => by have := hfr j e.symm; omega)).trans (hb.block j hj hn)⟩

theorem CollX.set (hF : Framed R) (h : CollX X w0 e k R d ys n out wr) (hX : X < w0.heap.size) (o : Nat) (v : Value) : CollX X w0 e k R d ys n out (wr.setCell ⟨X, o, none⟩ v) := by
  obtain ⟨ao, cp, rs, rfl, h1, h2, h3, h4, h5⟩ := h
  have hg : wr.grownBy (wr.setCell ⟨X, o, none⟩ v) (some X) := ⟨rfl, rfl, rfl, by simp, fun k _ hk => Below.heap_setCell wr ⟨X, o, none⟩ v k (fun e => hk (by rw [e]))⟩
  exact ⟨ao, cp, rs, rfl, h1.kept hg (.inr (fun e => by have := h3 X e; omega)), h2, h3, h4.imp fun _ _ h => hF.frame h (Same.grown hg (fun b hb e => by simp at e; omega)),
    h5.os, h5.tape, h5.output, Nat.le_trans h5.size hg.size, fun j hj hn => (hg.block j (Nat.lt_of_lt_of_le hj h5.size) hn).trans (h5.block j hj hn)⟩

theorem CollX.done (hF : Framed R) (h : CollX X w0 e k R d ys n out wr) : ∃ rows, SlAt wr (Fresh w0) k out rows ∧ Rel₂ (R wr (Fresh w0)) [] d rows ys := by
  obtain ⟨ao, cp, rs, rfl, h1, h2, h3, h4, h5⟩ := h
  exact ⟨rs, SlAt.of_owns h1 h2.1 h2.2 h3, h4.imp fun _ _ h => hF.mono h fun b hb _ => hb.1⟩
end

end Go.Proofs.Ytplafccjgbeojaa
