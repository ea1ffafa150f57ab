/- The plain model of layers 14 and 16 (no program in sight): catalogs, statements, slots. -/
namespace Go.Proofs.Ytplafccjgbeojaa
namespace Pm

/-- the i-th element; a plain name, so that simp leaves it alone -/
def nth {α : Type} (l : List α) (d : α) (i : Nat) : α := l.getD i d

theorem nth_eq {α : Type} {l : List α} {d : α} {i : Nat} (h : i < l.length) : nth l d i = l[i] := by
  simp [nth, h]

theorem nth_ge {α : Type} {l : List α} {d : α} {i : Nat} (h : l.length ≤ i) : nth l d i = d := by
  simp [nth, h]

theorem take_succ_nth {α : Type} (l : List α) (d : α) {i : Nat} (h : i < l.length) : l.take (i + 1) = l.take i ++ [nth l d i] := by
  rw [List.take_succ_eq_append_getElem h, nth_eq h]

theorem nth_map {α β : Type} (f : α → β) (l : List α) (d : α) (e : β) {i : Nat} (h : i < l.length) : nth (l.map f) e i = f (nth l d i) := by
  rw [nth_eq (by simpa using h), nth_eq h]; simp

theorem nth_append_left {α : Type} {l m : List α} {d : α} {i : Nat} (h : i < l.length) : nth (l ++ m) d i = nth l d i := by
  rw [nth_eq h, nth_eq (by simp; omega)]; simp [h]

theorem nth_append_right {α : Type} {l m : List α} {d : α} {i : Nat} (h : l.length ≤ i) : nth (l ++ m) d i = nth m d (i - l.length) := by
  simp [nth, List.getD_eq_getElem?_getD, List.getElem?_append_right h]

theorem nth_set_eq {α : Type} {l : List α} {d x : α} {i : Nat} (h : i < l.length) : nth (l.set i x) d i = x := by
  rw [nth_eq (by simpa using h)]; simp

theorem nth_set_ne {α : Type} {l : List α} {d x : α} {i j : Nat} (h : i ≠ j) : nth (l.set i x) d j = nth l d j := by
  simp [nth, List.getD_eq_getElem?_getD, List.getElem?_set_ne h]

theorem nth_mem {α : Type} {l : List α} {d : α} {i : Nat} (h : i < l.length) : nth l d i ∈ l := by
  rw [nth_eq h]; exact List.getElem_mem h

theorem mem_nth {α : Type} {l : List α} (d : α) {x : α} (h : x ∈ l) : ∃ i, i < l.length ∧ nth l d i = x := by
  obtain ⟨i, hi, rfl⟩ := List.mem_iff_getElem.1 h
  exact ⟨i, hi, nth_eq hi⟩

theorem ext_nth {α : Type} (d : α) {l m : List α} (hl : l.length = m.length) (h : ∀ i, i < l.length → nth l d i = nth m d i) : l = m := by
  apply List.ext_getElem hl
  intro i h1 h2
  have := h i h1
  rwa [nth_eq h1, nth_eq h2] at this

/-- a column -/
structure Col where
  name : ByteArray
  kind : Int
/-- an index -/
structure Idx where
  name : ByteArray
  cols : List Int
  root : Int
/-- a table -/
structure Tab where
  id : Int
  name : ByteArray
  cols : List Col
  idx : List Idx
/-- a value of a row -/
structure Val where
  kind : Int
  n : Int
  s : ByteArray

def dCol : Col := ⟨.empty, 0⟩
def dIdx : Idx := ⟨.empty, [], 0⟩
def dTab : Tab := ⟨0, .empty, [], []⟩
def dVal : Val := ⟨0, 0, .empty⟩

/-- a change -/
structure Change where
  kind : Int
  table : ByteArray
  names : List ByteArray
  old : List Val
  new : List Val
/-- a change with the LSN of its record -/
structure Turn where
  lsn : Int
  ch : Change
/-- a decoded transaction -/
structure Txn where
  lsn : Int
  chs : List Change
/-- a queued transaction with the LSN of its first change -/
structure Done where
  first : Int
  told : Txn
/-- a followed xid -/
structure Follow where
  xid : Int
  first : Int
  turns : List Turn
/-- a log record, as far as a slot looks at it -/
structure Rec where
  kind : Int
  xid : Int
  table : Int
  old : List Val
  new : List Val
  xids : List Int
  note : ByteArray

def dChange : Change := ⟨0, .empty, [], [], []⟩
def dTurn : Turn := ⟨0, dChange⟩
def dTxn : Txn := ⟨0, []⟩
def dDone : Done := ⟨0, dTxn⟩
def dFollow : Follow := ⟨0, 0, []⟩
def dRec : Rec := ⟨0, 0, 0, [], [], [], .empty⟩

/-- a slot -/
structure Slot where
  name : ByteArray
  acked : Int
  last : Int
  cats : List (Int × List Tab)
  follows : List Follow
  queue : List Done

/-- the catalog that is valid now -/
def Slot.now (s : Slot) : List Tab := (s.cats.getLast?.getD (0, [])).2

/-- the table with a number (the tables of a catalog are numbered from 1 on) -/
def tabAt (c : List Tab) (id : Int) : Option Tab := if 1 ≤ id ∧ id ≤ c.length then some (nth c dTab (id.toNat - 1)) else none

/-- the change of a record -/
def change (c : List Tab) (r : Rec) : Change :=
  match tabAt c r.table with
  | some t => ⟨r.kind, t.name, t.cols.map (·.name), r.old, r.new⟩
  | none => ⟨r.kind, .empty, [], r.old, r.new⟩

/-- a change is added to the list of an xid -/
def addTurn : List Follow → Int → Turn → List Follow
  | [], x, t => [⟨x, t.lsn, [t]⟩]
  | f :: fs, x, t => if f.xid = x then { f with turns := f.turns ++ [t] } :: fs else f :: addTurn fs x t

/-- the xids of a commit or an abort -/
def one (r : Rec) (x : Int) : Bool := decide (x = r.xid) || r.xids.any (fun y => decide (x = y))

/-- insertion by LSN -/
def insTurn (t : Turn) : List Turn → List Turn
  | [] => [t]
  | u :: us => if t.lsn < u.lsn then t :: u :: us else u :: insTurn t us

def sortTurns (l : List Turn) : List Turn := l.foldl (fun a t => insTurn t a) []

/-- the changes that a commit tells -/
def merged (fs : List Follow) (r : Rec) : List Turn := sortTurns ((fs.filter (fun f => one r f.xid)).flatMap (·.turns))

def left (fs : List Follow) (r : Rec) : List Follow := fs.filter (fun f => !one r f.xid)

end Pm
end Go.Proofs.Ytplafccjgbeojaa
