/- Plain laws: the xids of a commit, one by one; sorting. -/
import Derived.Test.YtplafccjgbeojaaPm
namespace Go.Proofs.Ytplafccjgbeojaa
namespace Pm

/-- an xid is dropped -/
def dropX (fs : List Follow) (x : Int) : List Follow := fs.filter fun f => decide (f.xid ≠ x)
/-- the changes of an xid -/
def turnsOf (fs : List Follow) (x : Int) : List Turn := (fs.filter fun f => decide (f.xid = x)).flatMap (·.turns)
/-- xids drained one by one: what is left, what came out -/
def drain : List Follow → List Turn → List Int → List Follow × List Turn
  | fs, ts, [] => (fs, ts)
  | fs, ts, x :: xs => drain (dropX fs x) (if turnsOf fs x = [] then ts else ts ++ turnsOf fs x) xs

def drain1 (p : List Follow × List Turn) (x : Int) : List Follow × List Turn := (dropX p.1 x, p.2 ++ turnsOf p.1 x)

theorem drop_left : ∀ (xs : List Int) (fs : List Follow), xs.foldl dropX fs = fs.filter fun f => !xs.any fun y => decide (f.xid = y)
  | [], fs => (List.filter_eq_self.2 (by simp)).symm
  | x :: xs, fs => by
    rw [List.foldl_cons, drop_left xs]
    unfold dropX
    rw [List.filter_filter]
    congr 1
    funext f
    by_cases h : f.xid = x <;> simp [h]

theorem left_eq (fs : List Follow) (r : Rec) : (r.xids ++ [r.xid]).foldl dropX fs = left fs r := by
  rw [drop_left]
  unfold left one
  congr 1
  funext f
  simp [List.any_append, Bool.or_comm]

theorem drained_fst : ∀ (xs : List Int) (fs : List Follow) (ts : List Turn), (xs.foldl drain1 (fs, ts)).1 = xs.foldl dropX fs
  | [], _, _ => rfl
  | x :: xs, fs, ts => drained_fst xs (dropX fs x) (ts ++ turnsOf fs x)

theorem filter_split {p q : Follow → Bool} : ∀ fs : List Follow, ((fs.filter p).flatMap (·.turns) ++ ((fs.filter (fun f => !p f)).filter q).flatMap (·.turns)).Perm ((fs.filter fun f => p f || q f).flatMap (·.turns))
  | [] => by simp
  | f :: fs => by
    have ih := filter_split (p := p) (q := q) fs
    by_cases hp : p f = true
    · simp only [List.filter_cons, hp, if_true, Bool.not_true, Bool.false_eq_true, if_false, Bool.true_or, List.flatMap_cons, List.append_assoc]
      exact ih.append_left _
    · simp only [Bool.not_eq_true] at hp
      by_cases hq : q f = true
      · simp only [List.filter_cons, hp, hq, Bool.false_eq_true, if_false, Bool.not_false, if_true, Bool.false_or, List.flatMap_cons]
        refine List.Perm.trans ?_ (ih.append_left f.turns)
        rw [← List.append_assoc, ← List.append_assoc]
        exact (List.perm_append_comm).append_right _
      · simp only [Bool.not_eq_true] at hq
        simp only [List.filter_cons, hp, hq, Bool.false_eq_true, if_false, Bool.not_false, if_true, Bool.false_or]
        exact ih

/-- what comes out is what the follows of those xids hold, in some order -/
theorem drained_snd : ∀ (xs : List Int) (fs : List Follow) (ts : List Turn), (xs.foldl drain1 (fs, ts)).2.Perm (ts ++ (fs.filter fun f => xs.any fun y => decide (f.xid = y)).flatMap (·.turns))
  | [], fs, ts => by
    have : fs.filter (fun f => ([] : List Int).any fun y => decide (f.xid = y)) = [] := List.filter_eq_nil_iff.2 (by simp)
    rw [this]; simp
  | x :: xs, fs, ts => by
    have ih := drained_snd xs (dropX fs x) (ts ++ turnsOf fs x)
    refine ih.trans ?_
    rw [List.append_assoc]
    refine List.Perm.append_left ts ?_
    have := filter_split (p := fun f => decide (f.xid = x)) (q := fun f => xs.any fun y => decide (f.xid = y)) fs
    unfold turnsOf dropX
    simpa using this

theorem insTurn_perm (t : Turn) : ∀ l, (insTurn t l).Perm (t :: l)
  | [] => .refl _
  | u :: us => by
    unfold insTurn
    by_cases h : t.lsn < u.lsn
    · simp [h]
    · simp only [h, if_false]
      exact ((insTurn_perm t us).cons u).trans (.swap _ _ _)

theorem insTurn_sorted (t : Turn) : ∀ l : List Turn, l.Pairwise (fun a b => a.lsn ≤ b.lsn) → (insTurn t l).Pairwise (fun a b => a.lsn ≤ b.lsn)
  | [], _ => by simp [insTurn]
  | u :: us, h => by
    unfold insTurn
    obtain ⟨h1, h2⟩ := List.pairwise_cons.1 h
    by_cases hu : t.lsn < u.lsn
    · simp only [hu, if_true]
      refine List.pairwise_cons.2 ⟨fun x hx => ?_, h⟩
      rcases List.mem_cons.1 hx with rfl | hx
      · omega
      · have := h1 x hx; omega
    · simp only [hu, if_false]
      refine List.pairwise_cons.2 ⟨fun x hx => ?_, insTurn_sorted t us h2⟩
      rcases List.mem_cons.1 ((insTurn_perm t us).mem_iff.1 hx) with rfl | hx
      · omega
      · exact h1 x hx

theorem sortTurns_perm (l : List Turn) : (sortTurns l).Perm l := by
  have : ∀ (l acc : List Turn), (l.foldl (fun a t => insTurn t a) acc).Perm (acc ++ l) := fun l => by
    induction l with
    | nil => intro acc; simp
    | cons t l ih =>
      intro acc
      rw [List.foldl_cons]
      refine (ih _).trans ?_
      refine ((insTurn_perm t acc).append_right l).trans ?_
      simp only [List.cons_append]
      exact List.perm_middle.symm
  simpa [sortTurns] using this l []

theorem sortTurns_sorted (l : List Turn) : (sortTurns l).Pairwise (fun a b => a.lsn ≤ b.lsn) := by
  have : ∀ (l acc : List Turn), acc.Pairwise (fun a b => a.lsn ≤ b.lsn) → (l.foldl (fun a t => insTurn t a) acc).Pairwise (fun a b => a.lsn ≤ b.lsn) := fun l => by
    induction l with
    | nil => intro acc h; exact h
    | cons t l ih => intro acc h; exact ih _ (insTurn_sorted t acc h)
  exact this l [] (by simp)

/-- where no LSN stands twice, there is one sorted list -/
theorem sorted_unique : ∀ {l m : List Turn}, l.Perm m → l.Pairwise (fun a b => a.lsn ≤ b.lsn) → m.Pairwise (fun a b => a.lsn ≤ b.lsn) → (l.map (·.lsn)).Nodup → l = m
  | [], m, hp, _, _, _ => by have := hp.length_eq; simp at this; exact (List.eq_nil_of_length_eq_zero this.symm).symm
  | a :: l, [], hp, _, _, _ => by have := hp.length_eq; simp at this
  | a :: l, b :: m, hp, hl, hm, hn => by
    simp only [List.map_cons, List.nodup_cons] at hn
    obtain ⟨h1, h2⟩ := List.pairwise_cons.1 hl
    obtain ⟨h3, h4⟩ := List.pairwise_cons.1 hm
    have hab : a = b := by
      rcases List.mem_cons.1 (hp.mem_iff.1 (List.mem_cons_self ..) : a ∈ b :: m) with e | ha
      · exact e
      · rcases List.mem_cons.1 (hp.mem_iff.2 (List.mem_cons_self ..) : b ∈ a :: l) with e | hb
        · exact e.symm
        · have e1 := h1 b hb
          have e2 := h3 a ha
          exact absurd (List.mem_map.2 ⟨b, hb, by omega⟩) hn.1
    subst hab
    rw [sorted_unique ((List.perm_cons a).1 hp) h2 h4 hn.2]

end Pm
end Go.Proofs.Ytplafccjgbeojaa
