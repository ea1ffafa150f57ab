/- How a slot lies in memory. K colours the blocks: (0,0,0) what never changes again; (i, role, xid) what belongs to slot i. -/
import Derived.Test.YtplafccjgbeojaaCat4
import Derived.Test.YtplafccjgbeojaaMaps
import Derived.Test.YtplafccjgbeojaaPl2
open Go Go.RowKit
namespace Go.Proofs.Ytplafccjgbeojaa
open Pm

abbrev Tag := Nat × Nat × Int
abbrev Imm (K : Nat → Tag) (b : Nat) : Prop := K b = (0, 0, 0)
/-- the colours of what is there stay -/
abbrev Ext (K K' : Nat → Tag) (n : Nat) : Prop := ∀ b, b < n → K' b = K b

/-- only what belongs to slot i has changed -/
structure Step (K : Nat → Tag) (i : Nat) (w w' : World) : Prop where
  os : w'.os = w.os
  tape : w'.tape = w.tape
  output : w'.output = w.output
  size : w.heap.size ≤ w'.heap.size
  block : ∀ b, b < w.heap.size → (K b).1 ≠ i → w'.heap[b]? = w.heap[b]?

section
variable {K K' : Nat → Tag} {i : Nat} {w w' w'' : World}
theorem Step.refl (K : Nat → Tag) (i : Nat) (w : World) : Step K i w w := ⟨rfl, rfl, rfl, Nat.le_refl _, fun _ _ _ => rfl⟩
theorem Step.of_below (h : Below w.heap.size w w') : Step K i w w' := ⟨h.os, h.tape, h.output, h.size, fun b hb _ => h.block b hb⟩
theorem Step.trans (h : Step K i w w') (hK : Ext K K' w.heap.size) (k : Step K' i w' w'') : Step K i w w'' :=
  ⟨k.os.trans h.os, k.tape.trans h.tape, k.output.trans h.output, Nat.le_trans h.size k.size, fun b hb hn => (k.block b (Nat.lt_of_lt_of_le hb h.size) (by rw [hK b hb]; exact hn)).trans (h.block b hb hn)⟩
theorem Step.set (h : Step K i w w') {a : Addr} (ha : a.block < w.heap.size → (K a.block).1 = i) (v : Value) : Step K i w (w'.setCell a v) :=
  ⟨h.os, h.tape, h.output, by simpa using h.size, fun b hb hn => (Below.heap_setCell w' a v b (fun e => hn (e ▸ ha (e ▸ hb)))).trans (h.block b hb hn)⟩
theorem Step.alloc (h : Step K i w w') (o : Obj) : Step K i w (w'.alloc o) :=
  ⟨h.os, h.tape, h.output, by have := h.size; simp; omega, fun b hb hn => (Below.heap_alloc w' o b (Nat.lt_of_lt_of_le hb h.size)).trans (h.block b hb hn)⟩
theorem Step.drew (h : Step K i w w') : Step K i w w'.drew := ⟨h.os, h.tape, h.output, h.size, h.block⟩
theorem Step.grown (h : Step K i w w') {row : Option Nat} (hg : w'.grownBy w'' row) (hr : ∀ b, row = some b → b < w.heap.size → (K b).1 = i) : Step K i w w'' :=
  ⟨hg.os.trans h.os, hg.tape.trans h.tape, hg.output.trans h.output, Nat.le_trans h.size hg.size, fun b hb hn => (hg.block b (Nat.lt_of_lt_of_le hb h.size) (fun e => hn (hr b e.symm hb))).trans (h.block b hb hn)⟩
theorem Step.then (h : Step K i w w') (hb : Below w'.heap.size w' w'') : Step K i w w'' := h.grown (grown_of_below hb) (by simp)
theorem Step.same (h : Step K i w w') {P : Nat → Prop} (hP : ∀ b, P b → (K b).1 ≠ i) : Same P w w' := ⟨h.size, fun b hb hl => h.block b hl (hP b hb)⟩
/-- what the slot does not own is as it was, seen from further below -/
theorem Step.below {B : Nat} (h : Step K i w w') (hB : B ≤ w.heap.size) (hc : ∀ b, b < B → (K b).1 ≠ i) : Below B w w' :=
  ⟨h.os, h.tape, h.output, h.size, fun b hb => h.block b (Nat.lt_of_lt_of_le hb hB) (hc b hb)⟩
end

/-- a row that grows -/
structure Row (w : World) (K : Nat → Tag) (e k : Nat) (c : Tag) (v : Value) (rows : List (List Value)) : Prop where
  owns : w.ownsRow 0 e k v rows.length rows.flatten
  len : ∀ r ∈ rows, r.length = k
  col : ∀ b, v.ownBlock = some b → K b = c

section
variable {w w' : World} {K K' : Nat → Tag} {e k : Nat} {c : Tag} {v : Value} {rows : List (List Value)}
theorem Row.nil (w : World) (K : Nat → Tag) (e k : Nat) (c : Tag) : Row w K e k c (.slice none 0 0) [] := ⟨World.ownsRow_nil _ _ _ _, by simp, by simp [Value.ownBlock]⟩
theorem Row.lt (h : Row w K e k c v rows) {b : Nat} (hb : v.ownBlock = some b) : b < w.heap.size := (h.owns.lt b hb).2
theorem Row.frame (h : Row w K e k c v rows) (hK : Ext K K' w.heap.size) (hw : ∀ b, b < w.heap.size → K b = c → w'.heap[b]? = w.heap[b]?) : Row w' K' e k c v rows := by
  refine ⟨⟨h.owns.1, ?_⟩, h.len, fun b hb => (hK b (h.lt hb)).trans (h.col b hb)⟩
  rcases h.owns.2 with h2 | ⟨g, cap, cur, rfl, h3, h4, h5⟩
  · exact .inl h2
  · exact .inr ⟨g, cap, cur, rfl, h3, (hw g (lt_of_block h4) (h.col g rfl)).trans h4, h5⟩
theorem Row.slat (h : Row w K e k c v rows) : SlAt w (fun b => K b = c) k v rows := SlAt.of_owns h.owns rfl h.len h.col
theorem Row.open (h : Row w K e k c v rows) : ∃ (a : Option Addr) (cap : Nat), v = .slice a rows.length cap ∧ rows.length ≤ cap ∧ cap ≤ 9223372036854775807 ∧ (rows = [] ∧ a = none ∧ cap = 0 ∨ ∃ b, a = some ⟨b, 0, none⟩ ∧ K b = c ∧ b < w.heap.size) := by
  rcases h.owns.2 with ⟨rfl, h0⟩ | ⟨g, cap, cur, rfl, _, hg, hn, hm, _⟩
  · exact ⟨none, 0, by rw [h0], by omega, by decide, .inl ⟨List.eq_nil_of_length_eq_zero h0, rfl, rfl⟩⟩
  · exact ⟨_, cap, rfl, hn, by unfold maxLen at hm; omega, .inr ⟨g, rfl, h.col g rfl, lt_of_block hg⟩⟩
end

def TimeRow (w : World) (K : Nat → Tag) (r : List Value) (p : Int × List Tab) : Prop := ∃ C, r = [.int .i64 p.1, .pointer (some ⟨C, 0, none⟩)] ∧ CatAt w (Imm K) C p.2
/-- a followed xid -/
def FollowAt (w : World) (K : Nat → Tag) (i : Nat) (f : Follow) (F : Nat) : Prop :=
  ∃ hv sv r1 r2, w.heap[F]? = some (.cells #[.int .i64 f.first, hv, sv] 86 (0, 0)) ∧ K F = (i, 4, f.xid) ∧ Row w K 78 6 (i, 5, f.xid) hv r1 ∧ Row w K 78 6 (i, 6, f.xid) sv r2 ∧
    Rel₂ (TurnRow w (Imm K)) [] dTurn (r1 ++ r2) f.turns ∧ r1.length ≤ 16 ∧ (r2 = [] ∨ r1.length = 16)

abbrev keyF (g : Follow × Nat) : Int × Nat := (g.1.xid, g.2)

structure RepP (w : World) (K : Nat → Tag) (i S : Nat) (s : Slot) (tv : Value) (M : Nat) (qv : Value) (tr qr : List (List Value)) (G : List (Follow × Nat)) : Prop where
  blk : w.heap[S]? = some (.cells #[.string s.name, .int .i64 s.acked, .int .i64 s.last, tv, .map (some M), qv] 70 (0, 0))
  kS : K S = (i, 0, 0)
  kM : K M = (i, 1, 0)
  trow : Row w K 82 2 (i, 2, 0) tv tr
  times : Rel₂ (TimeRow w K) [] (0, []) tr s.cats
  map : MapIs w M (G.map keyF)
  fol : G.map (·.1) = s.follows
  each : ∀ g ∈ G, FollowAt w K i g.1 g.2
  qrow : Row w K 72 3 (i, 3, 0) qv qr
  queue : Rel₂ (DoneRow w (Imm K)) [] dDone qr s.queue

def Rep (w : World) (K : Nat → Tag) (i S : Nat) (s : Slot) : Prop := ∃ tv M qv tr qr G, RepP w K i S s tv M qv tr qr G

section
variable {w w' : World} {K K' : Nat → Tag} {i S : Nat} {s : Slot} {C : Tag → Prop}

theorem same_imm (hs : w.heap.size ≤ w'.heap.size) (hC : ∀ b, b < w.heap.size → ¬ C (K b) → w'.heap[b]? = w.heap[b]?) (hI : ¬ C (0, 0, 0)) : Same (Imm K) w w' :=
  ⟨hs, fun b hb hl => hC b hl (by rw [hb]; exact hI)⟩

theorem imm_ext (hK : Ext K K' w.heap.size) : ∀ b, Imm K b → b < w.heap.size → Imm K' b := fun b hb hl => (hK b hl).trans hb

theorem TimeRow.go {r : List Value} {p : Int × List Tab} (h : TimeRow w K r p) (hs : w.heap.size ≤ w'.heap.size) (hK : Ext K K' w.heap.size) (hC : ∀ b, b < w.heap.size → ¬ C (K b) → w'.heap[b]? = w.heap[b]?) (hI : ¬ C (0, 0, 0)) : TimeRow w' K' r p := by
  obtain ⟨c, h1, h2⟩ := h
  exact ⟨c, h1, (h2.mono (Q := fun b => Imm K b ∧ Imm K' b) (fun b hb hl => ⟨hb, imm_ext hK b hb hl⟩)).frame ((same_imm hs hC hI).mono fun b hb => hb.1) |>.mono fun b hb _ => hb.2⟩

theorem Framed.go {β : Type} {R : World → (Nat → Prop) → List Value → β → Prop} (hF : Framed R) {r : List Value} {y : β} (h : R w (Imm K) r y) (hs : w.heap.size ≤ w'.heap.size) (hK : Ext K K' w.heap.size) (hC : ∀ b, b < w.heap.size → ¬ C (K b) → w'.heap[b]? = w.heap[b]?) (hI : ¬ C (0, 0, 0)) : R w' (Imm K') r y :=
  hF.mono (hF.frame (hF.mono h (Q := fun b => Imm K b ∧ Imm K' b) (fun b hb hl => ⟨hb, imm_ext hK b hb hl⟩)) ((same_imm hs hC hI).mono fun b hb => hb.1)) fun b hb _ => hb.2

theorem FollowAt.go {f : Follow} {F : Nat} (h : FollowAt w K i f F) (hs : w.heap.size ≤ w'.heap.size) (hK : Ext K K' w.heap.size) (hC : ∀ b, b < w.heap.size → ¬ C (K b) → w'.heap[b]? = w.heap[b]?) (hI : ¬ C (0, 0, 0))
    (h4 : ¬ C (i, 4, f.xid)) (h5 : ¬ C (i, 5, f.xid)) (h6 : ¬ C (i, 6, f.xid)) : FollowAt w' K' i f F := by
  obtain ⟨hv, sv, r1, r2, q1, q2, q3, q4, q5, q6⟩ := h
  exact ⟨hv, sv, r1, r2, (hC F (lt_of_block q1) (by rw [q2]; exact h4)).trans q1, (hK F (lt_of_block q1)).trans q2, q3.frame hK (fun b hl hb => hC b hl (by rw [hb]; exact h5)), q4.frame hK (fun b hl hb => hC b hl (by rw [hb]; exact h6)),
    q5.imp fun _ _ h => framed_turn.go h hs hK hC hI, q6⟩

/-- what other hands do keeps it -/
theorem Rep.go (h : Rep w K i S s) (hs : w.heap.size ≤ w'.heap.size) (hK : Ext K K' w.heap.size) (hC : ∀ b, b < w.heap.size → ¬ C (K b) → w'.heap[b]? = w.heap[b]?) (hI : ¬ C (0, 0, 0)) (hi : ∀ r x, ¬ C (i, r, x)) : Rep w' K' i S s := by
  obtain ⟨tv, M, qv, tr, qr, G, h⟩ := h
  exact ⟨tv, M, qv, tr, qr, G, (hC S (lt_of_block h.blk) (by rw [h.kS]; exact hi _ _)).trans h.blk, (hK S (lt_of_block h.blk)).trans h.kS, (hK M h.map.lt).trans h.kM,
    h.trow.frame hK (fun b hl hb => hC b hl (by rw [hb]; exact hi _ _)), h.times.imp fun _ _ h => h.go hs hK hC hI, h.map.frame (hC M h.map.lt (by rw [h.kM]; exact hi _ _)), h.fol,
    fun g hg => (h.each g hg).go hs hK hC hI (hi _ _) (hi _ _) (hi _ _), h.qrow.frame hK (fun b hl hb => hC b hl (by rw [hb]; exact hi _ _)), h.queue.imp fun _ _ h => framed_done.go h hs hK hC hI⟩

theorem Rep.below (h : Rep w K i S s) (hb : Below w.heap.size w w') (hK : Ext K K' w.heap.size) : Rep w' K' i S s :=
  h.go (C := fun _ => False) hb.size hK (fun b hl _ => hb.block b hl) (fun h => h) (fun _ _ h => h)

theorem Rep.other {j : Nat} (h : Rep w K i S s) (hb : Step K j w w') (hK : Ext K K' w.heap.size) (hij : i ≠ j) (hj : j ≠ 0) : Rep w' K' i S s :=
  h.go (C := fun c => c.1 = j) hb.size hK (fun b hl hn => hb.block b hl hn) (fun h => hj h.symm) (fun _ _ h => hij h)

theorem Rep.lt (h : Rep w K i S s) : S < w.heap.size := by obtain ⟨_, _, _, _, _, _, h⟩ := h; exact lt_of_block h.blk

theorem nodup_same {G : List (Follow × Nat)} (h : ((G.map keyF).map (·.1)).Nodup) {g g' : Follow × Nat} (hg : g ∈ G) (hg' : g' ∈ G) (e : g.1.xid = g'.1.xid) : g = g' := by
  rw [List.map_map] at h
  induction G with
  | nil => simp at hg
  | cons a l ih =>
    simp only [List.map_cons, List.nodup_cons] at h
    rcases List.mem_cons.1 hg with rfl | hg1
    · rcases List.mem_cons.1 hg' with rfl | hg2
      · rfl
      · exact absurd (List.mem_map.2 ⟨g', hg2, e.symm⟩) h.1
    · rcases List.mem_cons.1 hg' with rfl | hg2
      · exact absurd (List.mem_map.2 ⟨g, hg1, e⟩) h.1
      · exact ih h.2 hg1 hg2

/-- one xid's list has changed -/
theorem RepP.upd {tv : Value} {M : Nat} {qv : Value} {tr qr : List (List Value)} {G : List (Follow × Nat)} (h : RepP w K i S s tv M qv tr qr G) {f f' : Follow} {F : Nat} (hm : (f, F) ∈ G) (hx : f'.xid = f.xid)
    (hs : w.heap.size ≤ w'.heap.size) (hK : Ext K K' w.heap.size) (hC : ∀ b, b < w.heap.size → K b ≠ (i, 4, f.xid) → K b ≠ (i, 5, f.xid) → K b ≠ (i, 6, f.xid) → w'.heap[b]? = w.heap[b]?) (hi : i ≠ 0) (hF : FollowAt w' K' i f' F) :
    RepP w' K' i S { s with follows := s.follows.map fun g => if g.xid = f.xid then f' else g } tv M qv tr qr (G.map fun g => if g.1.xid = f.xid then (f', g.2) else g) := by
  have hC' : ∀ b, b < w.heap.size → ¬ (K b = (i, 4, f.xid) ∨ K b = (i, 5, f.xid) ∨ K b = (i, 6, f.xid)) → w'.heap[b]? = w.heap[b]? := fun b hb hn => hC b hb (fun e => hn (.inl e)) (fun e => hn (.inr (.inl e))) (fun e => hn (.inr (.inr e)))
  have hI : ¬ ((fun c : Tag => c = (i, 4, f.xid) ∨ c = (i, 5, f.xid) ∨ c = (i, 6, f.xid)) (0, 0, 0)) := by simp
  have hkey : (G.map fun g => if g.1.xid = f.xid then (f', g.2) else g).map keyF = G.map keyF := by
    rw [List.map_map]
    refine List.map_congr_left fun g _ => ?_
    by_cases e : g.1.xid = f.xid <;> simp [keyF, e, hx]
  refine ⟨(hC S (lt_of_block h.blk) (by simp [h.kS]) (by simp [h.kS]) (by simp [h.kS])).trans h.blk, (hK S (lt_of_block h.blk)).trans h.kS, (hK M h.map.lt).trans h.kM,
    h.trow.frame hK (fun b hl hb => hC b hl (by simp [hb]) (by simp [hb]) (by simp [hb])), h.times.imp fun _ _ h => h.go (C := fun c => c = (i, 4, f.xid) ∨ c = (i, 5, f.xid) ∨ c = (i, 6, f.xid)) hs hK hC' hI, ?_, ?_, ?_,
    h.qrow.frame hK (fun b hl hb => hC b hl (by simp [hb]) (by simp [hb]) (by simp [hb])), h.queue.imp fun _ _ h => framed_done.go (C := fun c => c = (i, 4, f.xid) ∨ c = (i, 5, f.xid) ∨ c = (i, 6, f.xid)) h hs hK hC' hI⟩
  · rw [hkey]
    exact h.map.frame (hC M h.map.lt (by simp [h.kM]) (by simp [h.kM]) (by simp [h.kM]))
  · rw [← h.fol, List.map_map, List.map_map]
    refine List.map_congr_left fun g _ => ?_
    by_cases e : g.1.xid = f.xid <;> simp [e]
  · intro g hg
    obtain ⟨g0, hg0, rfl⟩ := List.mem_map.1 hg
    by_cases e : g0.1.xid = f.xid
    · have := nodup_same h.map.nodup hg0 hm e
      subst this
      simpa [e] using hF
    · simp only [e, if_false]
      exact (h.each g0 hg0).go (C := fun c => c = (i, 4, f.xid) ∨ c = (i, 5, f.xid) ∨ c = (i, 6, f.xid)) hs hK hC' hI (by simp [e]) (by simp [e]) (by simp [e])

/-- a new xid -/
theorem RepP.ins {tv : Value} {M : Nat} {qv : Value} {tr qr : List (List Value)} {G : List (Follow × Nat)} (h : RepP w K i S s tv M qv tr qr G) {f : Follow} {F : Nat}
    (hs : w.heap.size ≤ w'.heap.size) (hK : Ext K K' w.heap.size) (hC : ∀ b, b < w.heap.size → K b ≠ (i, 1, 0) → w'.heap[b]? = w.heap[b]?) (hi : i ≠ 0) (hF : FollowAt w' K' i f F) (hM : MapIs w' M (G.map keyF ++ [(f.xid, F)])) :
    RepP w' K' i S { s with follows := s.follows ++ [f] } tv M qv tr qr (G ++ [(f, F)]) := by
  have hI : ¬ ((fun c : Tag => c = (i, 1, 0)) (0, 0, 0)) := by simp
  refine ⟨(hC S (lt_of_block h.blk) (by simp [h.kS])).trans h.blk, (hK S (lt_of_block h.blk)).trans h.kS, (hK M h.map.lt).trans h.kM,
    h.trow.frame hK (fun b hl hb => hC b hl (by simp [hb])), h.times.imp fun _ _ h => h.go (C := fun c => c = (i, 1, 0)) hs hK hC hI, by simpa [keyF] using hM, by simp [h.fol], ?_,
    h.qrow.frame hK (fun b hl hb => hC b hl (by simp [hb])), h.queue.imp fun _ _ h => framed_done.go (C := fun c => c = (i, 1, 0)) h hs hK hC hI⟩
  intro g hg
  rcases List.mem_append.1 hg with hg | hg
  · exact (h.each g hg).go (C := fun c => c = (i, 1, 0)) hs hK hC hI (by simp) (by simp) (by simp)
  · simp at hg; subst hg; exact hF

/-- the slot's own cells have changed -/
theorem RepP.head {s' : Slot} {tv : Value} {M : Nat} {qv : Value} {tr qr : List (List Value)} {G : List (Follow × Nat)} (h : RepP w K i S s tv M qv tr qr G) (hs : w.heap.size ≤ w'.heap.size) (hK : Ext K K' w.heap.size) (hi : i ≠ 0)
    (hC : ∀ b, b < w.heap.size → K b ≠ (i, 0, 0) → w'.heap[b]? = w.heap[b]?) (hb : w'.heap[S]? = some (.cells #[.string s'.name, .int .i64 s'.acked, .int .i64 s'.last, tv, .map (some M), qv] 70 (0, 0)))
    (h1 : s'.cats = s.cats) (h2 : s'.follows = s.follows) (h3 : s'.queue = s.queue) : RepP w' K' i S s' tv M qv tr qr G := by
  have hI : ¬ ((fun c : Tag => c = (i, 0, 0)) (0, 0, 0)) := by simp; exact fun e => hi e.symm
  exact ⟨hb, (hK S (lt_of_block h.blk)).trans h.kS, (hK M h.map.lt).trans h.kM, h.trow.frame hK (fun b hl hb => hC b hl (by simp [hb])), by rw [h1]; exact h.times.imp fun _ _ h => h.go (C := fun c => c = (i, 0, 0)) hs hK hC hI,
    h.map.frame (hC M h.map.lt (by simp [h.kM])), h.fol.trans h2.symm, fun g hg => (h.each g hg).go (C := fun c => c = (i, 0, 0)) hs hK hC hI (by simp) (by simp) (by simp), h.qrow.frame hK (fun b hl hb => hC b hl (by simp [hb])),
    by rw [h3]; exact h.queue.imp fun _ _ h => framed_done.go (C := fun c => c = (i, 0, 0)) h hs hK hC hI⟩

/-- an xid has gone -/
theorem RepP.del {tv : Value} {M : Nat} {qv : Value} {tr qr : List (List Value)} {G : List (Follow × Nat)} (h : RepP w K i S s tv M qv tr qr G) (x : Int)
    (hs : w.heap.size ≤ w'.heap.size) (hK : Ext K K' w.heap.size) (hC : ∀ b, b < w.heap.size → K b ≠ (i, 1, 0) → w'.heap[b]? = w.heap[b]?) (hM : MapIs w' M ((G.map keyF).filter fun p => p.1 ≠ x)) :
    RepP w' K' i S { s with follows := dropX s.follows x } tv M qv tr qr (G.filter fun g => decide (g.1.xid ≠ x)) := by
  have hI : ¬ ((fun c : Tag => c = (i, 1, 0)) (0, 0, 0)) := by simp
  have hm : (G.map keyF).filter (fun p => decide (p.1 ≠ x)) = (G.filter fun g => decide (g.1.xid ≠ x)).map keyF := by rw [List.filter_map]; rfl
  rw [hm] at hM
  refine ⟨(hC S (lt_of_block h.blk) (by simp [h.kS])).trans h.blk, (hK S (lt_of_block h.blk)).trans h.kS, (hK M h.map.lt).trans h.kM,
    h.trow.frame hK (fun b hl hb => hC b hl (by simp [hb])), h.times.imp fun _ _ h => h.go (C := fun c => c = (i, 1, 0)) hs hK hC hI, hM, ?_, ?_,
    h.qrow.frame hK (fun b hl hb => hC b hl (by simp [hb])), h.queue.imp fun _ _ h => framed_done.go (C := fun c => c = (i, 1, 0)) h hs hK hC hI⟩
  · unfold dropX
    rw [← h.fol, List.filter_map]
    rfl
  · intro g hg
    exact (h.each g (List.mem_filter.1 hg).1).go (C := fun c => c = (i, 1, 0)) hs hK hC hI (by simp) (by simp) (by simp)
end
end Go.Proofs.Ytplafccjgbeojaa
