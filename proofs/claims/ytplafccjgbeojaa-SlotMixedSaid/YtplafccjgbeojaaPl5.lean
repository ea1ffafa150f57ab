/- Plain: three transactions, interleaved (SlotMixed). -/
import Derived.Test.YtplafccjgbeojaaPl4
namespace Go.Proofs.Ytplafccjgbeojaa
namespace Pm

def insRec (x j : Int) : Rec := ⟨2, 3 + x, 0, [], [⟨1, 10 * x + j, ⟨#[]⟩⟩], [], ⟨#[]⟩⟩
def comRec (x : Int) : Rec := ⟨5, 5 - x, 0, [], [], [], ⟨#[]⟩⟩
def mixCh (x j : Int) : Change := change [] (insRec x j)
def mixList (c : Nat → Nat) (y : Int) : List Change := if 3 ≤ y ∧ y ≤ 5 then (List.range (c (y - 3).toNat)).map (fun j => mixCh (y - 3) (j : Nat)) else []

/-- of each of the three transactions the first changes came -/
structure Mixed (s : Slot) (c : Nat → Nat) (lsn : Nat) : Prop where
  inv : Inv s
  queue : s.queue = []
  now : s.now = []
  acked : s.acked = 0
  last : s.last = lsn
  chs : ∀ y, chsOf s y = mixList c y

theorem Mixed.new (name : ByteArray) : Mixed (newSlot name (max 0 0) (max 0 0) []) (fun _ => 0) 0 := by
  refine ⟨inv_new _ _ _ _, rfl, rfl, rfl, rfl, fun y => ?_⟩
  unfold mixList
  simp [chsOf, turnsOf, newSlot]

theorem Mixed.ins {rd : ByteArray → Option (List Tab)} {s : Slot} {c : Nat → Nat} {lsn : Nat} (h : Mixed s c lsn) (x : Nat) (hx : x < 3) :
    Mixed (feed rd s ((lsn : Int) + 1) (insRec x (c x))) (fun i => if i = x then c x + 1 else c i) (lsn + 1) := by
  have hl : s.last < (lsn : Int) + 1 := by have := h.last; omega
  have hk : (insRec x (c x)).kind = 2 := rfl
  refine ⟨h.inv.feed _ _, (queue_ins hl (.inl hk)).trans h.queue, (now_feed' (by rw [hk]; decide)).trans h.now, by rw [feed_acked]; exact h.acked, by rw [feed_last hl]; omega, fun y => ?_⟩
  rw [chs_ins h.inv hl (.inl hk), h.chs, h.now]
  show (if y = 3 + (x : Int) then mixList c y ++ [mixCh x (c x)] else mixList c y) = _
  unfold mixList
  by_cases hy : y = 3 + (x : Int)
  · subst hy
    have e : (3 + (x : Int) - 3) = x := by omega
    have hr : 3 ≤ 3 + (x : Int) ∧ 3 + (x : Int) ≤ 5 := by omega
    simp only [e, hr, and_self, if_true, Int.toNat_natCast, List.range_succ, List.map_append, List.map_cons, List.map_nil]
  · rw [if_neg hy]
    by_cases hr : 3 ≤ y ∧ y ≤ 5
    · have : ¬ (y - 3).toNat = x := by omega
      simp only [hr, and_self, if_true, this, if_false]
    · simp only [hr, if_false]

/-- two slots that told the same and follow the same; the xids from 6 - x on have ended -/
structure Pair (a b : Slot) (x : Nat) (lsn : Nat) : Prop where
  inva : Inv a
  invb : Inv b
  lasta : a.last = lsn
  lastb : b.last = lsn
  acka : a.acked = 0
  ackb : b.acked = 0
  told : a.queue.map (·.told) = b.queue.map (·.told)
  chs : ∀ y, chsOf a y = chsOf b y
  gone : ∀ y : Int, y < 3 ∨ 5 - (x : Int) < y → chsOf a y = []

theorem Mixed.pair {a b : Slot} {c c' : Nat → Nat} {lsn : Nat} (ha : Mixed a c lsn) (hb : Mixed b c' lsn) (hc : ∀ i, i < 3 → c i = c' i) : Pair a b 0 lsn := by
  refine ⟨ha.inv, hb.inv, ha.last, hb.last, ha.acked, hb.acked, by rw [ha.queue, hb.queue], fun y => ?_, fun y hy => ?_⟩
  · rw [ha.chs, hb.chs]
    unfold mixList
    by_cases hr : 3 ≤ y ∧ y ≤ 5
    · rw [if_pos hr, if_pos hr, hc _ (by omega)]
    · rw [if_neg hr, if_neg hr]
  · rw [ha.chs]
    unfold mixList
    rw [if_neg (by omega)]

theorem Pair.commit {rd : ByteArray → Option (List Tab)} {a b : Slot} {x lsn : Nat} (h : Pair a b x lsn) :
    Pair (feed rd a ((lsn : Int) + 1) (comRec x)) (feed rd b ((lsn : Int) + 1) (comRec x)) (x + 1) (lsn + 1) := by
  have hla : a.last < (lsn : Int) + 1 := by have := h.lasta; omega
  have hlb : b.last < (lsn : Int) + 1 := by have := h.lastb; omega
  have hk : (comRec x).kind = 5 := rfl
  have hxs : (comRec x).xids = [] := rfl
  refine ⟨h.inva.feed _ _, h.invb.feed _ _, by rw [feed_last hla]; omega, by rw [feed_last hlb]; omega, by rw [feed_acked]; exact h.acka, by rw [feed_acked]; exact h.ackb, ?_, fun y => ?_, fun y hy => ?_⟩
  · rw [queue_commit h.inva hla hk hxs (by rw [h.acka]; omega), queue_commit h.invb hlb hk hxs (by rw [h.ackb]; omega), h.told, h.chs]
  · rw [chs_end hla (.inl hk) hxs, chs_end hlb (.inl hk) hxs, h.chs]
  · rw [chs_end hla (.inl hk) hxs]
    show (if y = 5 - (x : Int) then [] else chsOf a y) = []
    by_cases he : y = 5 - (x : Int)
    · rw [if_pos he]
    · rw [if_neg he]
      exact h.gone y (by omega)

theorem Pair.done {a b : Slot} {lsn : Nat} (h : Pair a b 3 lsn) : a.follows = [] ∧ b.follows = [] := by
  have hg : ∀ y, chsOf a y = [] := fun y => h.gone y (by omega)
  exact ⟨none_left h.inva hg, none_left h.invb fun y => by rw [← h.chs]; exact hg y⟩

theorem Pair.queued {a b : Slot} {x lsn : Nat} (h : Pair a b x lsn) (n : Nat) : (a.queue.take n).map (·.told) = (b.queue.take n).map (·.told) := by
  rw [List.map_take, List.map_take, h.told]

end Pm
end Go.Proofs.Ytplafccjgbeojaa
