/- Plain: a slot made later (SlotLate); one transaction behind the other. -/
import Derived.Test.YtplafccjgbeojaaPl3
namespace Go.Proofs.Ytplafccjgbeojaa
namespace Pm

/-- two slots that follow the same xids; the first has told more before -/
structure Twin (a b : Slot) (pre : List Txn) : Prop where
  fol : b.follows = a.follows
  last : b.last = a.last
  now : b.now = a.now
  ackA : a.acked ≤ a.last
  ackB : b.acked ≤ b.last
  queue : a.queue.map (·.told) = pre ++ b.queue.map (·.told)

theorem now_of_cats {s t : Slot} (h : s.cats = t.cats) : s.now = t.now := by unfold Slot.now; rw [h]

section
variable {rd : ByteArray → Option (List Tab)} {a b s : Slot} {lsn : Int} {r : Rec} {pre : List Txn}

theorem acked_feed (h : s.acked ≤ s.last) (hl : s.last < lsn) : (feed rd s lsn r).acked ≤ (feed rd s lsn r).last := by
  rw [feed_acked, feed_last hl]; omega

theorem now_feed' (h10 : r.kind ≠ 10) : (feed rd s lsn r).now = s.now := now_of_cats (now_feed h10)

theorem Twin.feed (h : Twin a b pre) (hl : a.last < lsn) (h10 : r.kind ≠ 10) : Twin (feed rd a lsn r) (feed rd b lsn r) pre := by
  have hlb : b.last < lsn := by rw [h.last]; exact hl
  refine ⟨?_, by rw [feed_last hl, feed_last hlb], by rw [now_feed' h10, now_feed' h10, h.now], acked_feed h.ackA hl, acked_feed h.ackB hlb, ?_⟩
  · unfold Pm.feed
    rw [if_neg (show ¬ lsn ≤ a.last by omega), if_neg (show ¬ lsn ≤ b.last by omega)]
    by_cases h1 : r.kind = 2 ∨ r.kind = 3 ∨ r.kind = 4
    · rw [if_pos h1, if_pos h1]
      show addTurn b.follows _ _ = addTurn a.follows _ _
      rw [h.fol, h.now]
    rw [if_neg h1, if_neg h1]
    by_cases h5 : r.kind = 5
    · rw [if_pos h5, if_pos h5]
      show left b.follows r = left a.follows r
      rw [h.fol]
    rw [if_neg h5, if_neg h5]
    by_cases h6 : r.kind = 6
    · rw [if_pos h6, if_pos h6]
      show left b.follows r = left a.follows r
      rw [h.fol]
    rw [if_neg h6, if_neg h6, if_neg h10, if_neg h10]
    exact h.fol
  · by_cases h5 : r.kind = 5
    · rw [feed_commit_eq hl h5, feed_commit_eq hlb h5]
      show (a.queue ++ told a lsn r).map _ = pre ++ (b.queue ++ told b lsn r).map _
      have e : told b lsn r = told a lsn r := by
        unfold told
        have h1 : ¬ lsn ≤ a.acked := by have := h.ackA; omega
        have h2 : ¬ lsn ≤ b.acked := by have := h.ackB; omega
        simp only [h.fol, h1, h2]
      rw [e, List.map_append, List.map_append, h.queue, List.append_assoc]
    · have q : ∀ s : Slot, s.last < lsn → (Pm.feed rd s lsn r).queue = s.queue := fun s hs => by
        unfold Pm.feed
        rw [if_neg (show ¬ lsn ≤ s.last by omega), if_neg h5]
        repeat' split
        all_goals rfl
      rw [q a hl, q b hlb, h.queue]

/-- one xid alone is followed -/
def Solo (s : Slot) (x : Int) : Prop := ∀ f ∈ s.follows, f.xid = x

theorem Solo.ins (h : Solo s r.xid) (hl : s.last < lsn) (hk : r.kind = 2) : Solo (feed rd s lsn r) r.xid := by
  rw [feed_ins_eq hl (.inl hk)]
  intro f hf
  rcases addTurn_mem hf with hf | ⟨h1, _⟩
  · exact h f hf
  · exact h1

theorem Solo.commit (h : Solo s r.xid) (hl : s.last < lsn) (hk : r.kind = 5) : (feed rd s lsn r).follows = [] := by
  rw [feed_commit_eq hl hk]
  show left s.follows r = []
  unfold left
  refine List.filter_eq_nil_iff.2 fun f hf => ?_
  simp [Pm.one, h f hf]

theorem queue_len (hl : s.last < lsn) : (feed rd s lsn r).queue.length ≤ s.queue.length + 1 := by
  by_cases h5 : r.kind = 5
  · rw [feed_commit_eq hl h5]
    have : (told s lsn r).length ≤ 1 := by unfold told; split <;> simp
    simp; omega
  · have : (feed rd s lsn r).queue = s.queue := by
      unfold feed
      rw [if_neg (show ¬ lsn ≤ s.last by omega), if_neg h5]
      repeat' split
      all_goals rfl
    rw [this]; omega
end
end Pm
end Go.Proofs.Ytplafccjgbeojaa
