/- Plain: the changes of each xid, fed one by one. -/
import Derived.Test.YtplafccjgbeojaaPl2
namespace Go.Proofs.Ytplafccjgbeojaa
namespace Pm

theorem turnsOf_cons (f : Follow) (l : List Follow) (x : Int) : turnsOf (f :: l) x = if f.xid = x then f.turns ++ turnsOf l x else turnsOf l x := by
  unfold turnsOf
  by_cases h : f.xid = x <;> simp [h]

theorem turnsOf_none {l : List Follow} {x : Int} (h : ∀ f ∈ l, f.xid ≠ x) : turnsOf l x = [] := by
  unfold turnsOf
  rw [List.filter_eq_nil_iff.2 (by simpa using h)]
  rfl

theorem turnsOf_case : ∀ (l : List Follow), (l.map (·.xid)).Nodup → ∀ x : Int, (∃ f ∈ l, f.xid = x ∧ turnsOf l x = f.turns) ∨ ((∀ f ∈ l, f.xid ≠ x) ∧ turnsOf l x = [])
  | [], _, x => .inr ⟨by simp, rfl⟩
  | f :: l, h, x => by
    simp only [List.map_cons, List.nodup_cons] at h
    by_cases hx : f.xid = x
    · have : ∀ g ∈ l, g.xid ≠ x := fun g hg e => h.1 (List.mem_map.2 ⟨g, hg, e.trans hx.symm⟩)
      exact .inl ⟨f, by simp, hx, by rw [turnsOf_cons, if_pos hx, turnsOf_none this, List.append_nil]⟩
    · rcases turnsOf_case l h.2 x with ⟨g, h1, h2, h3⟩ | ⟨h1, h2⟩
      · exact .inl ⟨g, by simp [h1], h2, by rw [turnsOf_cons, if_neg hx, h3]⟩
      · refine .inr ⟨?_, by rw [turnsOf_cons, if_neg hx, h2]⟩
        intro g hg
        rcases List.mem_cons.1 hg with rfl | hg
        · exact hx
        · exact h1 g hg

theorem turnsOf_mem : ∀ (l : List Follow), (l.map (·.xid)).Nodup → ∀ {f : Follow}, f ∈ l → turnsOf l f.xid = f.turns
  | [], _, f, hf => by simp at hf
  | g :: l, h, f, hf => by
    simp only [List.map_cons, List.nodup_cons] at h
    rcases List.mem_cons.1 hf with rfl | hf
    · have : ∀ g ∈ l, g.xid ≠ f.xid := fun g hg e => h.1 (List.mem_map.2 ⟨g, hg, e⟩)
      rw [turnsOf_cons, if_pos rfl, turnsOf_none this, List.append_nil]
    · have : ¬ g.xid = f.xid := fun e => h.1 (List.mem_map.2 ⟨f, hf, e.symm⟩)
      rw [turnsOf_cons, if_neg this, turnsOf_mem l h.2 hf]

theorem turnsOf_add (x y : Int) (t : Turn) : ∀ l : List Follow, (l.map (·.xid)).Nodup → turnsOf (addTurn l x t) y = if y = x then turnsOf l y ++ [t] else turnsOf l y
  | [], _ => by
    by_cases h : y = x
    · subst h; simp [addTurn, turnsOf]
    · simp only [addTurn, turnsOf_cons, if_neg h, if_neg (fun e : x = y => h e.symm)]
  | f :: l, h => by
    simp only [List.map_cons, List.nodup_cons] at h
    unfold addTurn
    by_cases hf : f.xid = x
    · subst hf
      rw [if_pos rfl, turnsOf_cons, turnsOf_cons]
      by_cases hy : y = f.xid
      · subst hy
        have : ∀ g ∈ l, g.xid ≠ f.xid := fun g hg e => h.1 (List.mem_map.2 ⟨g, hg, e⟩)
        rw [if_pos rfl, if_pos rfl, if_pos rfl, turnsOf_none this]; simp
      · have hy' : ¬ f.xid = y := fun e => hy e.symm
        rw [if_neg hy', if_neg hy', if_neg hy]
    · rw [if_neg hf, turnsOf_cons, turnsOf_cons, turnsOf_add x y t l h.2]
      by_cases hy : y = x
      · subst hy
        rw [if_neg hf, if_neg hf, if_pos rfl]
      · rw [if_neg hy, if_neg hy]

theorem turnsOf_filter {p : Follow → Bool} {x : Int} : ∀ l : List Follow, (∀ f ∈ l, f.xid = x → p f = true) → turnsOf (l.filter p) x = turnsOf l x
  | [], _ => rfl
  | f :: l, h => by
    have ih := turnsOf_filter (p := p) (x := x) l (fun g hg => h g (by simp [hg]))
    by_cases hp : p f = true
    · rw [List.filter_cons_of_pos hp, turnsOf_cons, turnsOf_cons, ih]
    · rw [List.filter_cons_of_neg hp, turnsOf_cons, ih, if_neg (fun e => hp (h f (by simp) e))]

theorem turnsOf_left_self (l : List Follow) (r : Rec) (x : Int) (h : one r x = true) : turnsOf (left l r) x = [] := by
  refine turnsOf_none fun f hf e => ?_
  have := (List.mem_filter.1 hf).2
  rw [e, h] at this
  simp at this

theorem turnsOf_left_other (l : List Follow) (r : Rec) (x : Int) (h : one r x = false) : turnsOf (left l r) x = turnsOf l x :=
  turnsOf_filter l fun f _ e => by rw [e, h]; rfl

theorem sortTurns_id {l : List Turn} (h : l.Pairwise (fun a b => a.lsn < b.lsn)) : sortTurns l = l := by
  have hle : l.Pairwise (fun a b => a.lsn ≤ b.lsn) := h.imp fun h => by omega
  have hn : (l.map (·.lsn)).Nodup := by
    rw [List.nodup_iff_pairwise_ne, List.pairwise_map]
    exact h.imp fun h => by omega
  refine sorted_unique (sortTurns_perm l) (sortTurns_sorted l) hle ?_
  exact ((sortTurns_perm l).map _).nodup_iff.2 hn

theorem one_nil {r : Rec} (h : r.xids = []) (x : Int) : one r x = decide (x = r.xid) := by
  unfold one; rw [h]; simp

theorem merged_one {s : Slot} (hi : Inv s) {r : Rec} (h : r.xids = []) : merged s.follows r = turnsOf s.follows r.xid := by
  unfold merged
  have : (s.follows.filter fun f => one r f.xid) = s.follows.filter fun f => decide (f.xid = r.xid) := by
    congr 1; funext f; exact one_nil h _
  rw [this]
  show sortTurns (turnsOf s.follows r.xid) = _
  refine sortTurns_id ?_
  rcases turnsOf_case s.follows hi.keys r.xid with ⟨f, hf, _, e⟩ | ⟨_, e⟩
  · rw [e]; obtain ⟨_, _, _, _, h3⟩ := hi.first f hf; exact h3
  · rw [e]; simp

/-- the changes of an xid that has not ended -/
def chsOf (s : Slot) (x : Int) : List Change := (turnsOf s.follows x).map (·.ch)

section
variable {rd : ByteArray → Option (List Tab)} {s : Slot} {lsn : Int} {r : Rec}

theorem feed_ins_eq (hl : s.last < lsn) (hk : r.kind = 2 ∨ r.kind = 3 ∨ r.kind = 4) : feed rd s lsn r = { s with last := lsn, follows := addTurn s.follows r.xid ⟨lsn, change s.now r⟩ } := by
  unfold feed; rw [if_neg (by omega), if_pos hk]
theorem feed_commit_eq (hl : s.last < lsn) (hk : r.kind = 5) : feed rd s lsn r = { s with last := lsn, follows := left s.follows r, queue := s.queue ++ told s lsn r } := by
  unfold feed; rw [if_neg (by omega), if_neg (by omega), if_pos hk]
theorem feed_abort_eq (hl : s.last < lsn) (hk : r.kind = 6) : feed rd s lsn r = { s with last := lsn, follows := left s.follows r } := by
  unfold feed; rw [if_neg (by omega), if_neg (by omega), if_neg (by omega), if_pos hk]

theorem chs_ins (hi : Inv s) (hl : s.last < lsn) (hk : r.kind = 2 ∨ r.kind = 3 ∨ r.kind = 4) (y : Int) :
    chsOf (feed rd s lsn r) y = if y = r.xid then chsOf s y ++ [change s.now r] else chsOf s y := by
  rw [feed_ins_eq hl hk]
  unfold chsOf
  show (turnsOf (addTurn s.follows r.xid _) y).map _ = _
  rw [turnsOf_add _ _ _ _ hi.keys]
  by_cases h : y = r.xid <;> simp [h]
theorem chs_end (hl : s.last < lsn) (hk : r.kind = 5 ∨ r.kind = 6) (hx : r.xids = []) (y : Int) : chsOf (feed rd s lsn r) y = if y = r.xid then [] else chsOf s y := by
  have : (feed rd s lsn r).follows = left s.follows r := by
    rcases hk with hk | hk
    · rw [feed_commit_eq hl hk]
    · rw [feed_abort_eq hl hk]
  unfold chsOf
  rw [this]
  by_cases h : y = r.xid
  · rw [if_pos h, turnsOf_left_self _ _ _ (by rw [one_nil hx]; simpa using h)]; rfl
  · rw [if_neg h, turnsOf_left_other _ _ _ (by rw [one_nil hx]; simpa using h)]
theorem queue_ins (hl : s.last < lsn) (hk : r.kind = 2 ∨ r.kind = 3 ∨ r.kind = 4) : (feed rd s lsn r).queue = s.queue := by rw [feed_ins_eq hl hk]
theorem queue_abort (hl : s.last < lsn) (hk : r.kind = 6) : (feed rd s lsn r).queue = s.queue := by rw [feed_abort_eq hl hk]
theorem queue_commit (hi : Inv s) (hl : s.last < lsn) (hk : r.kind = 5) (hx : r.xids = []) (ha : s.acked < lsn) :
    (feed rd s lsn r).queue.map (·.told) = s.queue.map (·.told) ++ if chsOf s r.xid = [] then [] else [⟨lsn, chsOf s r.xid⟩] := by
  rw [feed_commit_eq hl hk]
  show (s.queue ++ told s lsn r).map _ = _
  rw [List.map_append]
  congr 1
  unfold told
  rw [merged_one hi hx]
  by_cases h : turnsOf s.follows r.xid = []
  · rw [if_pos (.inl h), if_pos (by unfold chsOf; rw [h]; rfl)]; rfl
  · rw [if_neg (by intro h'; rcases h' with h' | h'; exact h h'; omega), if_neg (by unfold chsOf; simpa using h)]; rfl
theorem now_feed (h10 : r.kind ≠ 10) : (feed rd s lsn r).cats = s.cats := by
  unfold feed
  split
  · rfl
  split
  · rfl
  split
  · rfl
  split
  · rfl
  simp only
end

theorem flat_len (l : List Follow) : (l.flatMap (·.turns)).length = (l.map (·.turns.length)).sum := by
  induction l with
  | nil => rfl
  | cons f l ih => rw [List.flatMap_cons, List.length_append, ih]; simp

/-- what comes out of draining is no more than what there is -/
theorem drained_len (xs : List Int) (fs : List Follow) : ((xs.foldl drain1 (fs, [])).2).length ≤ (fs.map (·.turns.length)).sum := by
  rw [(drained_snd xs fs []).length_eq, List.nil_append, ← flat_len]
  exact (filter_flat_sublist _ fs).length_le

theorem one_eq (r : Rec) (fs : List Follow) : (fs.filter fun f => (r.xids ++ [r.xid]).any fun y => decide (f.xid = y)) = fs.filter fun f => one r f.xid := by
  congr 1
  funext f
  unfold one
  simp [List.any_append, Bool.or_comm]

theorem drained_perm (fs : List Follow) (r : Rec) : (((r.xids ++ [r.xid]).foldl drain1 (fs, [])).2).Perm (merged fs r) := by
  refine (drained_snd _ fs []).trans ?_
  rw [List.nil_append, one_eq]
  exact (sortTurns_perm _).symm

theorem merged_of {s : Slot} (hi : Inv s) {r : Rec} {ts' : List Turn} (hp : ts'.Perm (((r.xids ++ [r.xid]).foldl drain1 (s.follows, [])).2)) (hs : ts'.Pairwise (fun a b => a.lsn ≤ b.lsn)) : ts' = merged s.follows r := by
  have hq := hp.trans (drained_perm s.follows r)
  refine sorted_unique hq hs (sortTurns_sorted _) ?_
  have h1 : (((s.follows.filter fun f => one r f.xid).flatMap (·.turns)).map (·.lsn)).Nodup := ((filter_flat_sublist _ _).map _).nodup hi.lsns
  exact ((hq.trans (sortTurns_perm _)).map _).nodup_iff.2 h1

theorem drained_fst' (xs : List Int) (fs : List Follow) : (xs.foldl drain1 (fs, [])).1 = xs.foldl dropX fs := drained_fst xs fs []

theorem drop_drop (xs : List Int) (fs : List Follow) : xs.foldl dropX (xs.foldl dropX fs) = xs.foldl dropX fs := by
  rw [drop_left, drop_left, List.filter_filter]
  congr 1
  funext f
  simp

theorem dropX_none {fs : List Follow} {x : Int} (h : ∀ f ∈ fs, f.xid ≠ x) : dropX fs x = fs := List.filter_eq_self.2 (by simpa using h)

/-- nothing is left where no xid has changes -/
theorem none_left {s : Slot} (hi : Inv s) (h : ∀ x, chsOf s x = []) : s.follows = [] := by
  cases hf : s.follows with
  | nil => rfl
  | cons f l =>
    exfalso
    have hm : f ∈ s.follows := by rw [hf]; simp
    obtain ⟨t, ts, ht, _⟩ := hi.first f hm
    have := h f.xid
    unfold chsOf at this
    rw [hf, turnsOf_cons, if_pos rfl, ht] at this
    simp at this

end Pm
end Go.Proofs.Ytplafccjgbeojaa
