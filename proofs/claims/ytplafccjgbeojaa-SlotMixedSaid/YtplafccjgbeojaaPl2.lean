/- Plain: feeding a slot; what stays true of it. -/
import Derived.Test.YtplafccjgbeojaaPl1
namespace Go.Proofs.Ytplafccjgbeojaa
namespace Pm

/-- what a record that commits adds to the queue -/
def told (s : Slot) (lsn : Int) (r : Rec) : List Done :=
  if merged s.follows r = [] ∨ lsn ≤ s.acked then [] else [⟨(nth (merged s.follows r) dTurn 0).lsn, ⟨lsn, (merged s.follows r).map (·.ch)⟩⟩]

/-- the catalog that a record brings -/
def newCat (rd : ByteArray → Option (List Tab)) (lsn : Int) (r : Rec) : List (Int × List Tab) :=
  match rd r.note with
  | some c => [(lsn, c)]
  | none => []

/-- a new slot -/
def newSlot (name : ByteArray) (acked last : Int) (c : List Tab) : Slot := ⟨name, acked, last, [(last, c)], [], []⟩

/-- a record is fed -/
def feed (rd : ByteArray → Option (List Tab)) (s : Slot) (lsn : Int) (r : Rec) : Slot :=
  if lsn ≤ s.last then s
  else if r.kind = 2 ∨ r.kind = 3 ∨ r.kind = 4 then { s with last := lsn, follows := addTurn s.follows r.xid ⟨lsn, change s.now r⟩ }
  else if r.kind = 5 then { s with last := lsn, follows := left s.follows r, queue := s.queue ++ told s lsn r }
  else if r.kind = 6 then { s with last := lsn, follows := left s.follows r }
  else if r.kind = 10 then { s with last := lsn, cats := s.cats ++ newCat rd lsn r }
  else { s with last := lsn }

theorem addTurn_xids (x : Int) (t : Turn) : ∀ l : List Follow, (addTurn l x t).map (·.xid) = if x ∈ l.map (·.xid) then l.map (·.xid) else l.map (·.xid) ++ [x]
  | [] => by simp [addTurn]
  | f :: l => by
    unfold addTurn
    by_cases h : f.xid = x
    · simp [h]
    · have h' : ¬ x = f.xid := fun e => h e.symm
      have ih := addTurn_xids x t l
      by_cases hm : x ∈ l.map (·.xid)
      · rw [if_pos hm] at ih
        simp only [h, if_false, List.map_cons, ih, List.mem_cons, h', false_or, hm, if_true]
      · rw [if_neg hm] at ih
        simp only [h, if_false, List.map_cons, ih, List.mem_cons, h', false_or, hm, List.cons_append]

theorem addTurn_turns (x : Int) (t : Turn) : ∀ l : List Follow, ((addTurn l x t).flatMap (·.turns)).Perm (l.flatMap (·.turns) ++ [t])
  | [] => by simp [addTurn]
  | f :: l => by
    unfold addTurn
    by_cases h : f.xid = x
    · simp only [h, if_true, List.flatMap_cons, List.append_assoc]
      exact (List.perm_append_comm).append_left _
    · simp only [h, if_false, List.flatMap_cons, List.append_assoc]
      exact (addTurn_turns x t l).append_left _

theorem addTurn_mem {x : Int} {t : Turn} : ∀ {l : List Follow} {f : Follow}, f ∈ addTurn l x t → f ∈ l ∨ f.xid = x ∧ (f.turns = [t] ∧ f.first = t.lsn ∨ ∃ g ∈ l, g.xid = x ∧ f = { g with turns := g.turns ++ [t] })
  | [], f, h => by simp [addTurn] at h; subst h; exact .inr ⟨rfl, .inl ⟨rfl, rfl⟩⟩
  | g :: l, f, h => by
    unfold addTurn at h
    by_cases hg : g.xid = x
    · rw [if_pos hg] at h
      rcases List.mem_cons.1 h with rfl | h
      · exact .inr ⟨hg, .inr ⟨g, by simp, hg, rfl⟩⟩
      · exact .inl (by simp [h])
    · simp only [hg, if_false, List.mem_cons] at h
      rcases h with rfl | h
      · exact .inl (by simp)
      · rcases addTurn_mem h with h | ⟨h1, h2 | ⟨g', h2, h3⟩⟩
        · exact .inl (by simp [h])
        · exact .inr ⟨h1, .inl h2⟩
        · exact .inr ⟨h1, .inr ⟨g', by simp [h2], h3⟩⟩

/-- no LSN stands twice; none is greater than the last one; each list begins with its first LSN -/
structure Inv (s : Slot) : Prop where
  lsns : ((s.follows.flatMap (·.turns)).map (·.lsn)).Nodup
  le : ∀ f ∈ s.follows, ∀ t ∈ f.turns, t.lsn ≤ s.last
  keys : (s.follows.map (·.xid)).Nodup
  first : ∀ f ∈ s.follows, ∃ t ts, f.turns = t :: ts ∧ f.first = t.lsn ∧ f.turns.Pairwise (fun a b => a.lsn < b.lsn)

theorem inv_new (name : ByteArray) (acked last : Int) (c : List Tab) : Inv (newSlot name acked last c) := ⟨by simp [newSlot], by simp [newSlot], by simp [newSlot], by simp [newSlot]⟩

theorem filter_flat_sublist (p : Follow → Bool) : ∀ l : List Follow, ((l.filter p).flatMap (·.turns)).Sublist (l.flatMap (·.turns))
  | [] => .slnil
  | f :: l => by
    by_cases h : p f = true
    · simp only [List.filter_cons, h, if_true, List.flatMap_cons]
      exact (List.Sublist.refl _).append (filter_flat_sublist p l)
    · simp only [Bool.not_eq_true] at h
      simp only [List.filter_cons, h, Bool.false_eq_true, if_false, List.flatMap_cons]
      exact (filter_flat_sublist p l).trans (List.sublist_append_right _ _)

theorem Inv.filter {s s' : Slot} (h : Inv s) (p : Follow → Bool) (hf : s'.follows = s.follows.filter p) (hl : s.last ≤ s'.last) : Inv s' := by
  refine ⟨?_, ?_, ?_, ?_⟩
  · rw [hf]; exact ((filter_flat_sublist p _).map _).nodup h.lsns
  · intro f hf' t ht
    rw [hf] at hf'
    have := h.le f (List.mem_filter.1 hf').1 t ht
    omega
  · rw [hf]; exact (List.filter_sublist.map _).nodup h.keys
  · intro f hf'
    rw [hf] at hf'
    exact h.first f (List.mem_filter.1 hf').1

theorem Inv.same {s s' : Slot} (h : Inv s) (hf : s'.follows = s.follows) (hl : s.last ≤ s'.last) : Inv s' :=
  h.filter (fun _ => true) (hf.trans (List.filter_eq_self.2 (by simp)).symm) hl

theorem Inv.add {s : Slot} (h : Inv s) {lsn : Int} (hl : s.last < lsn) (x : Int) (c : Change) : Inv { s with last := lsn, follows := addTurn s.follows x ⟨lsn, c⟩ } := by
  have hall : ∀ t ∈ s.follows.flatMap (·.turns), t.lsn ≤ s.last := fun t ht => by
    obtain ⟨f, hf, ht⟩ := List.mem_flatMap.1 ht
    exact h.le f hf t ht
  refine ⟨?_, ?_, ?_, ?_⟩
  · have hp := (addTurn_turns x ⟨lsn, c⟩ s.follows).map (·.lsn)
    refine (hp.nodup_iff).2 ?_
    rw [List.map_append, List.nodup_append]
    refine ⟨h.lsns, by simp, ?_⟩
    rintro a ha b hb rfl
    obtain ⟨t, ht, rfl⟩ := List.mem_map.1 ha
    simp at hb
    have := hall t ht
    omega
  · intro f hf t ht
    rcases addTurn_mem hf with hf | ⟨_, ⟨h2, _⟩ | ⟨g, hg, _, rfl⟩⟩
    · have := h.le f hf t ht; show t.lsn ≤ lsn; omega
    · rw [h2] at ht; simp at ht; subst ht; exact Int.le_refl _
    · rcases List.mem_append.1 ht with ht | ht
      · have := h.le g hg t ht; show t.lsn ≤ lsn; omega
      · simp at ht; subst ht; exact Int.le_refl _
  · show (List.map (·.xid) (addTurn s.follows x ⟨lsn, c⟩)).Nodup
    rw [addTurn_xids]
    by_cases hm : x ∈ s.follows.map (·.xid)
    · rw [if_pos hm]; exact h.keys
    · rw [if_neg hm, List.nodup_append]
      refine ⟨h.keys, by simp, ?_⟩
      rintro a ha b hb rfl
      simp at hb
      subst hb
      exact hm ha
  · intro f hf
    rcases addTurn_mem hf with hf | ⟨_, ⟨h2, h3⟩ | ⟨g, hg, _, rfl⟩⟩
    · exact h.first f hf
    · exact ⟨_, [], h2, h3, by rw [h2]; simp⟩
    · obtain ⟨t, ts, h1, h2, h3⟩ := h.first g hg
      refine ⟨t, ts ++ [⟨lsn, c⟩], by simp [h1], h2, ?_⟩
      refine List.pairwise_append.2 ⟨h3, by simp, ?_⟩
      intro a ha b hb
      simp at hb; subst hb
      have := h.le g hg a ha
      show a.lsn < lsn
      omega

theorem Inv.feed {rd : ByteArray → Option (List Tab)} {s : Slot} (h : Inv s) (lsn : Int) (r : Rec) : Inv (feed rd s lsn r) := by
  unfold Pm.feed
  by_cases hl : lsn ≤ s.last
  · rw [if_pos hl]; exact h
  rw [if_neg hl]
  have hle : s.last ≤ lsn := by omega
  by_cases h1 : r.kind = 2 ∨ r.kind = 3 ∨ r.kind = 4
  · rw [if_pos h1]; exact h.add (by omega) _ _
  rw [if_neg h1]
  by_cases h5 : r.kind = 5
  · rw [if_pos h5]; exact h.filter (fun f => !one r f.xid) rfl hle
  rw [if_neg h5]
  by_cases h6 : r.kind = 6
  · rw [if_pos h6]; exact h.filter (fun f => !one r f.xid) rfl hle
  rw [if_neg h6]
  by_cases h10 : r.kind = 10
  · rw [if_pos h10]; exact h.same rfl hle
  rw [if_neg h10]; exact h.same rfl hle

theorem feed_last {rd : ByteArray → Option (List Tab)} {s : Slot} {lsn : Int} (h : s.last < lsn) (r : Rec) : (feed rd s lsn r).last = lsn := by
  unfold feed
  rw [if_neg (by omega)]
  repeat' split
  all_goals rfl
theorem feed_name {rd : ByteArray → Option (List Tab)} {s : Slot} {lsn : Int} (r : Rec) : (feed rd s lsn r).name = s.name := by
  unfold feed
  repeat' split
  all_goals rfl
theorem feed_acked {rd : ByteArray → Option (List Tab)} {s : Slot} {lsn : Int} (r : Rec) : (feed rd s lsn r).acked = s.acked := by
  unfold feed
  repeat' split
  all_goals rfl

end Pm
end Go.Proofs.Ytplafccjgbeojaa
