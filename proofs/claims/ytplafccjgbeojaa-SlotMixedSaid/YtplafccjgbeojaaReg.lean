/- A region that draws its order, walked in ONE order: what only reads is taken as soon as it may come up; what writes follows in the one order that its edges leave.
   'S' holds of the world behind every operation that is carried out, but for the late ones: those that wait for all that reads. -/
import Derived.OrdersHeld
import Derived.BigQuiet
import Derived.Deep.QuietTactic
import Derived.WalkKit
namespace Go

section
variable {P : Program} {ops : Array Oper} {Q : Exit → Act → World → Prop} {md : Region.Mode} {S : World → Prop} {late : Nat → Bool}

/-- operation j waits for operation i -/
def Region.waits (md : Region.Mode) (ops : Array Oper) (j i : Nat) : Bool :=
  match ops[j]? with
  | some oj => oj.after.any fun e => Region.binds md e && e.on == i
  | none => false

theorem Region.waits_spec {j i : Nat} (h : Region.waits md ops j i = true) : ∃ oj, ops[j]? = some oj ∧ ∃ e ∈ oj.after, Region.binds md e = true ∧ e.on = i := by
  unfold Region.waits at h
  split at h
  · rename_i oj hj
    obtain ⟨e, he, hb⟩ := Array.any_eq_true'.1 h
    simp only [Bool.and_eq_true, beq_iff_eq] at hb
    exact ⟨oj, hj, e, he, hb.1, hb.2⟩
  · cases h

def wpAnyT (P : Program) (md : Region.Mode) (ops : Array Oper) (Q : Exit → Act → World → Prop) (S : World → Prop) (late : Nat → Bool) : Nat → Array Bool → Act → World → Prop
  | 0, listed, a, w => Region.ready md ops listed = [] ∧ Q .normal a w
  | fuel + 1, listed, a, w =>
    (Region.ready md ops listed = [] → Q .normal a w) ∧
    ∀ i ∈ Region.ready md ops listed, wpOp P ops Q i (fun a' w' => (late i = false → S w → S w') ∧ wpAnyT P md ops Q S late fuel (listed.setIfInBounds i true) a' w') a w

theorem wpAny_of_T : ∀ (fuel : Nat) (listed : Array Bool) (a : Act) (w : World), wpAnyT P md ops Q S late fuel listed a w → wpAny P md ops Q fuel listed a w
  | 0, _, _, _, h => h
  | fuel + 1, _, _, _, h => ⟨h.1, fun i hi => wpOp_mono (fun a' w' h' => wpAny_of_T fuel _ a' w' h'.2) (h.2 i hi)⟩

theorem wpAnyT_first {S' : World → Prop} {i : Nat} {oi : Oper} {v : Value} (hi : ops[i]? = some oi) (hsel : ∀ (j : Nat) (o : Oper) cs b, ops[j]? = some o → o.op ≠ .select cs b)
    (hQ : ∀ c a w, Q (.panic c) (a.put oi.dst v) w → Q (.panic c) a w)
    (hl : (∀ w, S' w) ∨ (S' = S ∧ ∀ j, late j = true → j ≠ i → Region.waits md ops j i = true)) :
    ∀ (fuel : Nat) (listed : Array Bool) (a : Act) (w : World),
      (∀ j oj, ops[j]? = some oj → j ≠ i → listed.getD j true = false → (∀ e ∈ oj.after, Region.binds md e = true → e.on ≠ i) → oi.apart ops oj = true) →
      i ∈ Region.ready md ops listed → YieldsIf P ops S' oi v a → S' w →
      wpAnyT P md ops Q S late fuel (listed.setIfInBounds i true) (a.put oi.dst v) w → wpAnyT P md ops Q S late (fuel + 1) listed a w := by
  intro fuel
  induction fuel with
  | zero =>
    intro listed a w _ hr hy hS H
    refine ⟨fun h => (by rw [h] at hr; cases hr), fun j hj => ?_⟩
    by_cases hji : j = i
    · subst hji; exact hy.wpOp hi hS ⟨fun _ h => h, H⟩
    · have := ready_mono hj hji
      rw [H.1] at this
      cases this
  | succ fuel ih =>
    intro listed a w hfree hr hy hS H
    refine ⟨fun h => (by rw [h] at hr; cases hr), fun j hj => ?_⟩
    by_cases hji : j = i
    · subst hji; exact hy.wpOp hi hS ⟨fun _ h => h, H⟩
    · have h1 := H.2 j (ready_mono hj hji)
      obtain ⟨hjun, oj, hoj, hall⟩ := mem_ready.1 hj
      have hnot : ∀ e ∈ oj.after, Region.binds md e = true → e.on ≠ i := fun e he hb heq => by
        have h1 := hall e he hb
        have h0 := (mem_ready.1 hr).1
        rw [heq] at h1
        rcases Nat.lt_or_ge i listed.size with h' | h'
        · simp [h'] at h0 h1; rw [h0] at h1; cases h1
        · simp [Array.getElem?_eq_none h'] at h1
      have hS2 : ∀ w', (late j = false → S w → S w') → S' w' := fun w' hw' => by
        rcases hl with hl | ⟨rfl, hl2⟩
        · exact hl w'
        · cases hlj : late j with
          | false => exact hw' hlj hS
          | true =>
            obtain ⟨o2, ho2, e, he, hb, hon⟩ := Region.waits_spec (hl2 j hlj hji)
            have : o2 = oj := Option.some.inj (ho2.symm.trans hoj)
            subst this
            exact absurd hon (hnot e he hb)
      have h2 := wpOp_putIf hoj (hfree j oj hoj hji hjun hnot) (fun cs b => hsel i oi cs b hi) (fun cs b => hsel j oj cs b hoj) hQ hy h1
      have hfree' : ∀ k ok, ops[k]? = some ok → k ≠ i → (listed.setIfInBounds j true).getD k true = false →
          (∀ e ∈ ok.after, Region.binds md e = true → e.on ≠ i) → oi.apart ops ok = true := fun k ok hk hki hun hno => by
        refine hfree k ok hk hki ?_ hno
        by_cases hjk : j = k
        · subst hjk; exact hjun
        · rw [getD_set_ne true hjk] at hun; exact hun
      refine wpOp_mono (fun a' w' h3 => ⟨h3.2.1, ih (listed.setIfInBounds j true) a' w' hfree' (ready_mono hr (Ne.symm hji)) h3.1 (hS2 w' h3.2.1) ?_⟩) h2
      rw [Array.setIfInBounds_comm _ _ hji]
      exact h3.2.2

/-- the plan: which operation comes next; 0: it computes; 1: it reads (under S); 2: it is carried out; 'En': what must hold at its end -/
def Region.planOk (md : Region.Mode) (ops : Array Oper) (late : List Nat) (En : Array Bool → Bool) : List (Nat × Nat) → Array Bool → Bool
  | [], listed => En listed
  | (i, k) :: r, listed =>
    (match k with
     | 0 => (Region.ready md ops listed).contains i && Region.free md ops listed i
     | 1 => (Region.ready md ops listed).contains i && Region.free md ops listed i && late.all (fun j => j == i || Region.waits md ops j i)
     | _ => decide (Region.ready md ops listed = [i])) && Region.planOk md ops late En r (listed.setIfInBounds i true)

def planWp (P : Program) (ops : Array Oper) (Q : Exit → Act → World → Prop) (S : World → Prop) (late : List Nat) (E : Act → World → Prop) : List (Nat × Nat) → Act → World → Prop
  | [], a, w => E a w
  | (i, 0) :: r, a, w => ∃ o v, ops[i]? = some o ∧ YieldsIf P ops (fun _ => True) o v a ∧ planWp P ops Q S late E r (a.put o.dst v) w
  | (i, 1) :: r, a, w => S w ∧ ∃ o v, ops[i]? = some o ∧ YieldsIf P ops S o v a ∧ planWp P ops Q S late E r (a.put o.dst v) w
  | (i, _ + 2) :: r, a, w => wpOp P ops Q i (fun a' w' => (late.contains i = false → S w → S w') ∧ planWp P ops Q S late E r a' w') a w

theorem plan_sound {lt : List Nat} (hsel : Region.noSelect ops = true) (hQ : ∀ c a d v w, Q (.panic c) (Act.put a d v) w → Q (.panic c) a w) {E : Act → World → Prop} {En : Array Bool → Bool} {m : Nat}
    (hE : ∀ listed a w, En listed = true → E a w → wpAnyT P md ops Q S lt.contains m listed a w) :
    ∀ (plan : List (Nat × Nat)) (listed : Array Bool) (a : Act) (w : World), Region.planOk md ops lt En plan listed = true → planWp P ops Q S lt E plan a w →
      wpAnyT P md ops Q S lt.contains (m + plan.length) listed a w
  | [], listed, a, w, hB, h => hE listed a w hB h
  | (i, k) :: r, listed, a, w, hB, h => by
    simp only [Region.planOk, Bool.and_eq_true] at hB
    obtain ⟨hB1, hB2⟩ := hB
    rw [List.length_cons, ← Nat.add_assoc]
    match k, hB1, h with
    | 0, hB1, h =>
      obtain ⟨o, v, ho, hy, hK⟩ := h
      simp only [Bool.and_eq_true] at hB1
      exact wpAnyT_first (S' := fun _ => True) ho (Region.noSelect_spec hsel) (fun c a w => hQ c a _ _ w) (.inl fun _ => trivial) (m + r.length) listed a w (Region.free_spec ho hB1.2) (by simpa using hB1.1) hy trivial
        (plan_sound hsel hQ hE r _ _ _ hB2 hK)
    | 1, hB1, h =>
      obtain ⟨hS, o, v, ho, hy, hK⟩ := h
      simp only [Bool.and_eq_true] at hB1
      exact wpAnyT_first (S' := S) ho (Region.noSelect_spec hsel) (fun c a w => hQ c a _ _ w)
        (.inr ⟨rfl, fun j hj hji => by
          have := List.all_eq_true.1 hB1.2 j (by simpa using hj)
          simpa [hji] using this⟩) (m + r.length) listed a w (Region.free_spec ho hB1.1.2) (by simpa using hB1.1.1) hy hS
        (plan_sound hsel hQ hE r _ _ _ hB2 hK)
    | k + 2, hB1, h =>
      simp only [decide_eq_true_eq] at hB1
      refine ⟨fun h0 => absurd (hB1 ▸ h0) (by simp), fun j hj => ?_⟩
      rw [hB1] at hj
      have : j = i := by simpa using hj
      subst this
      exact wpOp_mono (fun a' w' h' => ⟨h'.1, plan_sound hsel hQ hE r _ a' w' hB2 h'.2⟩) h

/-- a plan that forks where two effects may come next -/
inductive PT where
  | done
  | seq (p : List (Nat × Nat)) (t : PT)
  | fork (i : Nat) (t1 : PT) (j : Nat) (t2 : PT)

def PT.ok (md : Region.Mode) (ops : Array Oper) (late : List Nat) : PT → Nat → Array Bool → Bool
  | .done, n, listed => n == 0 && (Region.ready md ops listed).isEmpty
  | .seq p t, n, listed => decide (p.length ≤ n) && Region.planOk md ops late (fun l => t.ok md ops late (n - p.length) l) p listed
  | .fork i t1 j t2, n, listed => decide (n ≠ 0) && decide (Region.ready md ops listed = [i, j]) && t1.ok md ops late (n - 1) (listed.setIfInBounds i true) && t2.ok md ops late (n - 1) (listed.setIfInBounds j true)

def PT.wp (P : Program) (ops : Array Oper) (Q : Exit → Act → World → Prop) (S : World → Prop) (late : List Nat) : PT → Act → World → Prop
  | .done, a, w => Q .normal a w
  | .seq p t, a, w => planWp P ops Q S late (t.wp P ops Q S late) p a w
  | .fork i t1 j t2, a, w => wpOp P ops Q i (fun a' w' => (late.contains i = false → S w → S w') ∧ t1.wp P ops Q S late a' w') a w ∧ wpOp P ops Q j (fun a' w' => (late.contains j = false → S w → S w') ∧ t2.wp P ops Q S late a' w') a w

theorem PT.sound {lt : List Nat} (hsel : Region.noSelect ops = true) (hQ : ∀ c a d v w, Q (.panic c) (Act.put a d v) w → Q (.panic c) a w) :
    ∀ (t : PT) (n : Nat) (listed : Array Bool) (a : Act) (w : World), t.ok md ops lt n listed = true → t.wp P ops Q S lt a w → wpAnyT P md ops Q S lt.contains n listed a w
  | .done, n, listed, a, w, hB, h => by
    simp only [PT.ok, Bool.and_eq_true, beq_iff_eq] at hB
    obtain ⟨rfl, hB⟩ := hB
    exact ⟨by simpa using hB, h⟩
  | .seq p t, n, listed, a, w, hB, h => by
    simp only [PT.ok, Bool.and_eq_true, decide_eq_true_eq] at hB
    have := plan_sound (m := n - p.length) hsel hQ (fun l a w => PT.sound hsel hQ t (n - p.length) l a w) p listed a w hB.2 h
    rwa [Nat.sub_add_cancel hB.1] at this
  | .fork i t1 j t2, n, listed, a, w, hB, h => by
    simp only [PT.ok, Bool.and_eq_true, decide_eq_true_eq] at hB
    obtain ⟨⟨⟨hn, hr⟩, h1⟩, h2⟩ := hB
    obtain ⟨m, rfl⟩ : ∃ m, n = m + 1 := ⟨n - 1, by omega⟩
    refine ⟨fun h0 => absurd (hr ▸ h0) (by simp), fun k hk => ?_⟩
    rw [hr] at hk
    simp at hk
    rcases hk with rfl | rfl
    · exact wpOp_mono (fun a' w' h' => ⟨h'.1, PT.sound hsel hQ t1 m _ a' w' h1 h'.2⟩) h.1
    · exact wpOp_mono (fun a' w' h' => ⟨h'.1, PT.sound hsel hQ t2 m _ a' w' h2 h'.2⟩) h.2

theorem PT.start {t : PT} {p : List (Nat × Nat)} {lt : List Nat} {a : Act} {w : World} (h : planWp P ops Q S lt (t.wp P ops Q S lt) p a w) : (PT.seq p t).wp P ops Q S lt a w := h

/-- THE BEGIYtplafccjgbeojaaING, of a tree -/
theorem wp_region_tree {id : Nat} {a : Act} {w : World} {l : List Oper} (S : World → Prop) (late : List Nat) (t : PT) (hm : P.follows .mixedOrders = true)
    (hB : (Region.noSelect l.toArray && t.ok .any l.toArray late l.length (Array.replicate l.length false)) = true)
    (hQ : ∀ c a d v w, Q (.panic c) (Act.put a d v) w → Q (.panic c) a w)
    (h : t.wp P l.toArray Q S late a w.drew) : (Code.region id l.toArray true).wp P Q a w := by
  simp only [Bool.and_eq_true] at hB
  refine wp_region_any hm ?_
  have := PT.sound (md := .any) hB.1 hQ t l.length _ a w.drew hB.2 h
  simpa using wpAny_of_T _ _ _ _ this

/-- THE BEGIYtplafccjgbeojaaING -/
theorem wp_region_plan {id : Nat} {a : Act} {w : World} {l : List Oper} (S : World → Prop) (late : List Nat) (plan : List (Nat × Nat)) (hm : P.follows .mixedOrders = true)
    (hB : (Region.noSelect l.toArray && decide (plan.length = l.length) && Region.planOk .any l.toArray late (fun listed => (Region.ready .any l.toArray listed).isEmpty) plan (Array.replicate l.length false)) = true)
    (hQ : ∀ c a d v w, Q (.panic c) (Act.put a d v) w → Q (.panic c) a w)
    (h : planWp P l.toArray Q S late (Q .normal) plan a w.drew) : (Code.region id l.toArray true).wp P Q a w := by
  simp only [Bool.and_eq_true, decide_eq_true_eq] at hB
  obtain ⟨⟨h1, h2⟩, h3⟩ := hB
  refine wp_region_any hm ?_
  have := plan_sound (md := .any) (m := 0) h1 hQ (fun listed a w hE h => (⟨by simpa using hE, h⟩ : wpAnyT P .any l.toArray Q S late.contains 0 listed a w)) plan _ a w.drew h3 h
  rw [Nat.zero_add, h2] at this
  simpa using wpAny_of_T _ _ _ _ this

/-- slots that nobody asks for any more -/
theorem forget {T : Array Value} (F : (Nat → Value) → Array Value) (h : T = F (fun n => T.getD n undef)) : ∃ u, T = F u := ⟨_, h⟩

/-- it computes: in whatever world -/
theorem plan_pure {l : List Oper} {i : Nat} {r : List (Nat × Nat)} {lt : List Nat} {E : Act → World → Prop} {o : Oper} {v : Value} {a : Act} {w : World} (ho' : l[i]? = some o) (hg : o.guard = none)
    (hy : ∀ w', (execOp a.eval o).run P w' = .ok (.value v) w') (h : planWp P l.toArray Q S lt E r (a.put o.dst v) w) : planWp P l.toArray Q S lt E ((i, 0) :: r) a w :=
  ⟨o, v, (by simpa using ho'), .inl ⟨by simp [Region.wanted, hg], fun w' _ => hy w'⟩, h⟩
/-- it reads: in whatever world under S -/
theorem plan_read {l : List Oper} {i : Nat} {r : List (Nat × Nat)} {lt : List Nat} {E : Act → World → Prop} {o : Oper} {v : Value} {a : Act} {w : World} (hS : S w) (ho' : l[i]? = some o) (hg : o.guard = none)
    (hy : ∀ w', S w' → (execOp a.eval o).run P w' = .ok (.value v) w') (h : planWp P l.toArray Q S lt E r (a.put o.dst v) w) : planWp P l.toArray Q S lt E ((i, 1) :: r) a w :=
  ⟨hS, o, v, (by simpa using ho'), .inl ⟨by simp [Region.wanted, hg], hy⟩, h⟩
/-- it is carried out -/
theorem plan_do {l : List Oper} {i : Nat} {r : List (Nat × Nat)} {lt : List Nat} {E : Act → World → Prop} {o : Oper} {a : Act} {w : World} (ho' : l[i]? = some o) (hg : o.guard = none)
    (h : ∀ K : Act → World → Prop, (∀ a' w', (lt.contains i = false → S w → S w') ∧ planWp P l.toArray Q S lt E r a' w' → K a' w') → o.wp P a w K Q) : planWp P l.toArray Q S lt E ((i, 2) :: r) a w := by
  show wpOp P l.toArray Q i _ a w
  unfold wpOp
  have ho : l.toArray[i]? = some o := by simpa using ho'
  simp only [ho]
  rw [if_pos (by simp [Region.wanted, hg])]
  exact .inl (h _ fun _ _ h => h)
/-- either of two effects -/
theorem pt_fork {l : List Oper} {i j : Nat} {t1 t2 : PT} {lt : List Nat} {o o' : Oper} {a : Act} {w : World} (ho : l[i]? = some o) (hg : o.guard = none) (ho' : l[j]? = some o') (hg' : o'.guard = none)
    (h1 : ∀ K : Act → World → Prop, (∀ a' w', (lt.contains i = false → S w → S w') ∧ t1.wp P l.toArray Q S lt a' w' → K a' w') → o.wp P a w K Q)
    (h2 : ∀ K : Act → World → Prop, (∀ a' w', (lt.contains j = false → S w → S w') ∧ t2.wp P l.toArray Q S lt a' w' → K a' w') → o'.wp P a w K Q) : (PT.fork i t1 j t2).wp P l.toArray Q S lt a w := by
  refine ⟨?_, ?_⟩
  · unfold wpOp
    have ho : l.toArray[i]? = some o := by simpa using ho
    simp only [ho]
    rw [if_pos (by simp [Region.wanted, hg])]
    exact .inl (h1 _ fun _ _ h => h)
  · unfold wpOp
    have ho : l.toArray[j]? = some o' := by simpa using ho'
    simp only [ho]
    rw [if_pos (by simp [Region.wanted, hg'])]
    exact .inl (h2 _ fun _ _ h => h)

/-- its guard says no -/
theorem plan_skip {l : List Oper} {i : Nat} {r : List (Nat × Nat)} {lt : List Nat} {E : Act → World → Prop} {o : Oper} {a : Act} {w : World} (ho' : l[i]? = some o) (hw : Region.wanted o (yielded l.toArray a.tmps) = false)
    (h : planWp P l.toArray Q S lt E r (a.put o.dst undef) w) : planWp P l.toArray Q S lt E ((i, 0) :: r) a w :=
  ⟨o, undef, (by simpa using ho'), .inr ⟨hw, rfl⟩, h⟩

/-- what computes, and does nothing else -/
def softOp : Op → Bool
  | .move _ | .assign _ | .pick .. | .build .. | .nilCheck _ | .binOp .. | .unOp .. | .convert .. | .makeInterface .. | .makeFunc .. | .slice .. | .fieldAddr .. | .field .. | .indexAddr .. | .index .. | .extract .. => true
  | .call { callee := .builtin .len, .. } | .call { callee := .builtin .min, .. } | .call { callee := .builtin .max, .. } => true
  | _ => false

theorem value_of_bind {s : Sem Value} {w w' : World} {n : Next} (h : (do pure (Next.value (← s)) : Sem Next).run P w = .ok n w') : ∃ u, n = .value u := by
  simp only [Sem.run_bind] at h
  cases hs : s.run P w with
  | ok u w1 => rw [hs] at h; simp [Result.andThen] at h; exact ⟨u, h.1.symm⟩
  | halt x w1 => rw [hs] at h; simp [Result.andThen] at h

theorem soft_value {ρ : Operand → Value} {o : Oper} (h : softOp o.op = true) {w w' : World} {n : Next} (hr : (execOp ρ o).run P w = .ok n w') : ∃ u, n = .value u := by
  obtain ⟨dst, op, ty, pos, after, guard⟩ := o
  cases op <;> first | (simp [softOp] at h; done) | skip
  case move x => simp [execOp] at hr; exact ⟨_, hr.1.symm⟩
  case assign x => simp [execOp] at hr; exact ⟨_, hr.1.symm⟩
  case pick c a b =>
    simp only [execOp, Sem.run_bind] at hr
    cases hs : (asBool (ρ c)).run P w with
    | ok u w1 => rw [hs] at hr; simp [Result.andThen] at hr; exact ⟨_, hr.1.symm⟩
    | halt x w1 => rw [hs] at hr; simp [Result.andThen] at hr
  case nilCheck x =>
    simp only [execOp] at hr
    split at hr
    · simp [runtimePanic, goPanic] at hr
    · simp [runtimePanic, goPanic] at hr
    · simp [runtimePanic, goPanic] at hr
    · split at hr
      · simp [runtimePanic, goPanic] at hr
      · simp only [Sem.run_bind] at hr
        generalize (Sem.run P program w) = r1 at hr
        cases r1 with
        | halt x w1 => simp [Result.andThen] at hr
        | ok p w1 =>
          simp only [Result.andThen] at hr
          generalize (Sem.run P (nilAhead _ _ _ _) w1) = r2 at hr
          cases r2 with
          | halt x w1 => simp at hr
          | ok b w2 =>
            simp only at hr
            by_cases hb : (b != some false) = true
            · simp [hb, unsupported] at hr
            · simp [hb] at hr; exact ⟨_, hr.1.symm⟩
      · simp at hr; exact ⟨_, hr.1.symm⟩
    · simp at hr; exact ⟨_, hr.1.symm⟩
  case call c =>
    obtain ⟨callee, args, ats⟩ := c
    cases callee <;> first | (simp [softOp] at h; done) | skip
    case builtin b =>
      cases b <;> first | (simp [softOp] at h; done) | skip
      all_goals exact value_of_bind hr
  all_goals exact value_of_bind hr

/-- it computes: by the quiet walk's own step -/
theorem plan_soft {l : List Oper} {i : Nat} {r : List (Nat × Nat)} {lt : List Nat} {E : Act → World → Prop} {o : Oper} {a : Act} {w : World} (ho' : l[i]? = some o) (hs : softOp o.op = true) (hw : Region.wanted o (yielded l.toArray a.tmps) = true)
    (h : ∀ K : Act → Prop, (∀ a', planWp P l.toArray Q S lt E r a' w → K a') → o.quiet P a (fun _ => True) K) : planWp P l.toArray Q S lt E ((i, 0) :: r) a w := by
  obtain ⟨v, h1, h2⟩ := h _ (fun _ h => h)
  refine ⟨o, v, (by simpa using ho'), .inl ⟨hw, fun w' _ => ?_⟩, h2⟩
  have h3 := h1 w' trivial
  unfold Oper.quietAt at h3
  cases hr : (execOp a.eval o).run P w' with
  | halt x w1 => rw [hr] at h3; simp [Oper.quietUpon] at h3
  | ok n w1 =>
    obtain ⟨u, rfl⟩ := soft_value hs hr
    rw [hr] at h3
    simp only [Oper.quietUpon] at h3
    rw [h3.1, h3.2]

/-- it reads a variable -/
theorem plan_load {l : List Oper} {i : Nat} {r : List (Nat × Nat)} {lt : List Nat} {E : Act → World → Prop} {o : Oper} {v : Value} {a : Act} {w : World} {t : TypeId} {x : Operand} {p : Addr} (hS : S w) (ho' : l[i]? = some o) (hop : o.op = .load t x)
    (hw : Region.wanted o (yielded l.toArray a.tmps) = true) (hx : a.eval x = .pointer (some p)) (hy : ∀ w', S w' → (loadVar t p).run P w' = .ok v w') (h : planWp P l.toArray Q S lt E r (a.put o.dst v) w) : planWp P l.toArray Q S lt E ((i, 1) :: r) a w :=
  ⟨hS, o, v, (by simpa using ho'), .inl ⟨hw, fun w' hw' => by simp [execOp, hop, hx, Instr.loadAt, Instr.sureAddr, hy w' hw', Result.andThen]⟩, h⟩

/-- a variable of one cell -/
theorem loadVar_one {t : TypeId} {p : Addr} {v : Value} {w : World} (ht : (match P.underlying t with | some (.struct _) | some (.array _ _) | none => true | _ => false) = false) (hv : w.cell? p = some v) :
    (loadVar t p).run P w = .ok v w := by
  cases hu : P.underlying t with
  | none => rw [hu] at ht; simp at ht
  | some d =>
    rw [hu] at ht
    cases d <;> simp at ht <;> simp [loadVar, isAgg, run_underlying hu, load, Sem.run, hv]

end
end Go
