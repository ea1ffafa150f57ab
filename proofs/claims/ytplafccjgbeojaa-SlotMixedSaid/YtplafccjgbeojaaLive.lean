/- Slots in a law's hands: contracts in one form. -/
import Derived.Test.YtplafccjgbeojaaFeed5
import Derived.Test.YtplafccjgbeojaaNew
open Go Go.RowKit
namespace Go.Proofs.Ytplafccjgbeojaa
open Pm

/-- what was there before the law is as it was, and immutable -/
structure Held (w0 w : World) (K : Nat → Tag) : Prop where
  below : Below w0.heap.size w0 w
  old : ∀ b, b < w0.heap.size → K b = (0, 0, 0)

/-- a slot that is whole -/
structure Live (w : World) (K : Nat → Tag) (i S : Nat) (s : Slot) (n : Nat) : Prop where
  rep : Rep w K i S s
  fits : Fits s n
  inv : Pm.Inv s

section
variable {w0 w w' : World} {K K' : Nat → Tag} {i j S : Nat} {s : Slot} {n : Nat}

theorem Held.start (w : World) : Held w w (fun _ => (0, 0, 0)) := ⟨Below.refl _ _, fun _ _ => rfl⟩
theorem Held.step (h : Held w0 w K) (hs : Step K i w w') (hK : Ext K K' w.heap.size) (hi : i ≠ 0) : Held w0 w' K' := by
  have hz := h.below.size
  refine ⟨⟨hs.os.trans h.below.os, hs.tape.trans h.below.tape, hs.output.trans h.below.output, Nat.le_trans hz hs.size, fun b hb => (hs.block b (by omega) (by rw [h.old b hb]; exact fun e => hi e.symm)).trans (h.below.block b hb)⟩, fun b hb => (hK b (by omega)).trans (h.old b hb)⟩
theorem Held.then (h : Held w0 w K) (hb : Below w.heap.size w w') (hK : Ext K K' w.heap.size) : Held w0 w' K' := by
  have hz := h.below.size
  exact ⟨Below.step h.below (Nat.le_refl _) hb, fun b hb => (hK b (by omega)).trans (h.old b hb)⟩

theorem Live.below (h : Live w K i S s n) (hb : Below w.heap.size w w') (hK : Ext K K' w.heap.size) : Live w' K' i S s n := ⟨h.rep.below hb hK, h.fits, h.inv⟩
theorem Live.other (h : Live w K i S s n) (hb : Step K j w w') (hK : Ext K K' w.heap.size) (hij : i ≠ j) (hj : j ≠ 0) : Live w' K' i S s n := ⟨h.rep.other hb hK hij hj, h.fits, h.inv⟩
theorem Live.lt (h : Live w K i S s n) : S < w.heap.size := h.rep.lt
theorem Live.up (h : Live w K i S s n) (hn : n + 1 ≤ 999999) : Live w K i S s (n + 1) := ⟨h.rep, h.fits.up hn, h.inv⟩

/-- immutable things stay -/
theorem imm_same (hs : Step K i w w') (hK : Ext K K' w.heap.size) (hi : i ≠ 0) : Same (fun b => Imm K b ∧ Imm K' b) w w' := ⟨hs.size, fun b hb hl => hs.block b hl (by rw [hb.1]; exact fun e => hi e.symm)⟩
theorem TxnsAt.step {v : Value} {l : List Txn} (h : TxnsAt w (Imm K) v l) (hs : Step K i w w') (hK : Ext K K' w.heap.size) (hi : i ≠ 0) : TxnsAt w' (Imm K') v l :=
  ((h.mono (Q := fun b => Imm K b ∧ Imm K' b) fun b hb hl => ⟨hb, imm_ext hK b hb hl⟩).frame (imm_same hs hK hi)).mono fun b hb _ => hb.2
theorem TxnsAt.then {v : Value} {l : List Txn} (h : TxnsAt w (Imm K) v l) (hb : Below w.heap.size w w') (hK : Ext K K' w.heap.size) : TxnsAt w' (Imm K') v l :=
  ((h.mono (Q := fun b => Imm K b ∧ Imm K' b) fun b hb hl => ⟨hb, imm_ext hK b hb hl⟩).frame (Same.of_below hb)).mono fun b hb _ => hb.2
theorem RecAt.step {r : List Value} {x : Rec} (h : RecAt w (Imm K) r x) (hs : Step K i w w') (hK : Ext K K' w.heap.size) (hi : i ≠ 0) : RecAt w' (Imm K') r x :=
  h.go (C := fun c => c.1 = i) hs.size hK hs.block (fun e => hi e.symm)
theorem RecAt.then {r : List Value} {x : Rec} (h : RecAt w (Imm K) r x) (hb : Below w.heap.size w w') (hK : Ext K K' w.heap.size) : RecAt w' (Imm K') r x :=
  h.go (C := fun _ => False) hb.size hK (fun b hl _ => hb.block b hl) (fun h => h)

theorem new_go (h : Held w0 w K) (i : Nat) (hi : i ≠ 0) (name : ByteArray) (m : Int) :
    Calls Try.prog 9 #[.string name, .int .i64 m, .pointer none] w fun e w' => ∃ S K', e = .returned (.pointer (some ⟨S, 0, none⟩)) ∧ Held w0 w' K' ∧ Live w' K' i S (newSlot name (max m 0) (max m 0) []) 0 ∧ Ext K K' w.heap.size ∧ Below w.heap.size w w' := by
  refine (new_nil K i w name m).mono ?_
  rintro e w' ⟨S, K', rfl, hK, hR, hB⟩
  exact ⟨S, K', rfl, h.then hB hK, ⟨hR, fits_new small_nil, inv_new _ _ _ _⟩, hK, hB⟩

theorem feed_go (rd : ByteArray → Option (List Tab)) (h : Held w0 w K) (hl : Live w K i S s n) (hi : i ≠ 0) (hn : n + 1 ≤ 999999) (lsn : Int) (r : List Value) (x : Rec) (hr : RecAt w (Imm K) r x) (hx : Plain x) :
    Calls Try.prog 12 #[.pointer (some ⟨S, 0, none⟩), .int .i64 lsn, .agg r.toArray] w fun e w' => e = .returned (.tuple #[]) ∧ ∃ K', Held w0 w' K' ∧ Live w' K' i S (feed rd s lsn x) (n + 1) ∧ Step K i w w' ∧ Ext K K' w.heap.size := by
  refine (feed_calls rd K i S s n lsn r x w hl.rep hi hr hl.fits hl.inv hx).mono ?_
  rintro e w' ⟨rfl, K', hK, hS, hR⟩
  exact ⟨rfl, K', h.step hS hK hi, ⟨hR, hl.fits.feed hn hx.old hx.new (fun e => absurd e hx.kind), hl.inv.feed _ _⟩, hS, hK⟩

theorem queued_go (h : Held w0 w K) (hl : Live w K i S s n) (m : Int) :
    Calls Try.prog 11 #[.pointer (some ⟨S, 0, none⟩), .int .i64 m] w fun e w' => ∃ a k c K', e = .returned (.slice a k c) ∧ TxnsAt w' (Imm K') (.slice a k c) (queued s m) ∧ Held w0 w' K' ∧ Live w' K' i S s n ∧ Below w.heap.size w w' ∧ Ext K K' w.heap.size := by
  refine (queued_calls K i S s n m w hl.rep hl.fits).mono ?_
  rintro e w' ⟨a, k, c, rfl, ht, hB⟩
  have hK : Ext K (fun b => if b < w.heap.size then K b else (0, 0, 0)) w.heap.size := fun b hb => by simp [hb]
  refine ⟨a, k, c, _, rfl, ht.mono fun b hb _ => ?_, h.then hB hK, hl.below hB hK, hB, hK⟩
  have : ¬ b < w.heap.size := by simpa [Fresh] using hb
  simp [Imm, this]

def ackd (s : Slot) (m : Int) : Slot := { s with acked := m, queue := s.queue.filter fun d => !upTo m d }

theorem Fits.ack (h : Fits s n) (m : Int) : Fits (ackd s m) n :=
  ⟨h.le, h.turns, h.fols, Nat.le_trans (List.length_filter_le _ _) h.queue, h.cats, h.some, h.small, h.okt, fun d hd => h.okq d (List.mem_filter.1 hd).1⟩

theorem ack_go (h : Held w0 w K) (hl : Live w K i S s n) (hi : i ≠ 0) (m : Int) (hm : s.acked ≤ m ∧ m ≤ s.last) :
    Calls Try.prog 19 #[.pointer (some ⟨S, 0, none⟩), .int .i64 m] w fun e w' => e = .returned (.int .i64 0) ∧ ∃ K', Held w0 w' K' ∧ Live w' K' i S (ackd s m) n ∧ Step K i w w' ∧ Ext K K' w.heap.size := by
  refine (ack_good hl.rep hi hl.fits m hm).mono ?_
  rintro e w' ⟨rfl, K', hK, hS, hR⟩
  exact ⟨rfl, K', h.step hS hK hi, ⟨hR, hl.fits.ack m, hl.inv.same rfl (Int.le_refl _)⟩, hS, hK⟩

theorem need_go (h : Held w0 w K) (hl : Live w K i S s n) (hlast : -4611686018427387904 ≤ s.last ∧ s.last ≤ 4611686018427387904) :
    Calls Try.prog 22 #[.pointer (some ⟨S, 0, none⟩)] w fun e w' => e = .returned (.int .i64 (need s)) ∧ Held w0 w' K ∧ Live w' K i S s n ∧ Below w.heap.size w w' := by
  refine (need_calls hl.rep hl.fits hlast).mono ?_
  rintro e w' ⟨rfl, hB⟩
  exact ⟨rfl, h.then hB (fun _ _ => rfl), hl.below hB (fun _ _ => rfl), hB⟩
end

/-- a record without rows, as the laws build it -/
theorem rec_bare (w : World) (P : Nat → Prop) (k x t : Int) : RecAt w P [.int .i64 k, .int .i64 x, .int .i64 t, .slice none 0 0, .slice none 0 0, .slice none 0 0, .slice none 0 0, .string ⟨#[]⟩] ⟨k, x, t, [], [], [], ⟨#[]⟩⟩ :=
  ⟨none, 0, 0, none, 0, 0, .slice none 0 0, none, 0, 0, rfl, SlAt.nil _ _ _, SlAt.nil _ _ _, SlAt.nil _ _ _⟩

theorem plain_bare {k x t : Int} {y : ByteArray} (h : k ≠ 10) : Plain ⟨k, x, t, [], [], [], y⟩ := ⟨h, by simp, by simp, by simp⟩
end Go.Proofs.Ytplafccjgbeojaa
