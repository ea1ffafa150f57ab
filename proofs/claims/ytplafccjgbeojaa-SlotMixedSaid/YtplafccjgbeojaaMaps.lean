/- Maps int -> pointer: entries in the order in which they were made; look-up, store, delete, len, range. -/
import Derived.Test.YtplafccjgbeojaaBase
import Derived.Maps.RangeWalk
open Go Go.RowKit
open Go.ChangeMaps (setBlock heap_setBlock_same heap_setBlock_other)
namespace Go.Proofs.Ytplafccjgbeojaa
open Pm

def entOf (p : Int × Nat) : Value × Value := (.int .i64 p.1, .pointer (some ⟨p.2, 0, none⟩))
def kvOf (e : MapEntry) : Value × Value := (e.key, e.val)

/-- block M is a map with these entries -/
def MapIs (w : World) (M : Nat) (fs : List (Int × Nat)) : Prop :=
  ∃ es clock, w.heap[M]? = some (.map es clock) ∧ es.toList.map kvOf = fs.map entOf ∧ (fs.map (·.1)).Nodup ∧ (es.toList.map (·.born)).Nodup ∧ ∀ e ∈ es.toList, e.born < clock

theorem MapIs.lt {w : World} {M : Nat} {fs : List (Int × Nat)} (h : MapIs w M fs) : M < w.heap.size := by
  obtain ⟨es, clock, h, _⟩ := h; exact lt_of_block h
theorem MapIs.nodup {w : World} {M : Nat} {fs : List (Int × Nat)} (h : MapIs w M fs) : (fs.map (·.1)).Nodup := by
  obtain ⟨es, clock, _, _, h, _⟩ := h; exact h
theorem MapIs.frame {w w' : World} {M : Nat} {fs : List (Int × Nat)} (h : MapIs w M fs) (e : w'.heap[M]? = w.heap[M]?) : MapIs w' M fs := by
  obtain ⟨es, clock, h1, h2⟩ := h; exact ⟨es, clock, e.trans h1, h2⟩
theorem MapIs.made (w : World) : MapIs (w.alloc (.map #[] 0)) w.heap.size [] := ⟨#[], 0, heap_alloc_new w _, rfl, by simp, by simp, by simp⟩

theorem findNow_miss {x : Int} : ∀ (es : List MapEntry) (fs : List (Int × Nat)) (i : Nat), es.map kvOf = fs.map entOf → (∀ p ∈ fs, p.1 ≠ x) → Instr.findNow (.int .i64) (.int .i64 x) es i = some none
  | [], _, _, _, _ => rfl
  | e :: es, [], i, h, _ => by simp at h
  | e :: es, f :: fs, i, h, hx => by
    simp only [List.map_cons, List.cons.injEq] at h
    have hk : e.key = .int .i64 f.1 := congrArg Prod.fst h.1
    have hne : (x == f.1) = false := by simp; exact fun e => hx f (by simp) e.symm
    unfold Instr.findNow
    simp only [hk, Instr.sameNow, if_true, hne]
    exact findNow_miss es fs (i + 1) h.2 (fun p hp => hx p (by simp [hp]))

theorem findNow_hit {x : Int} {F : Nat} : ∀ (es : List MapEntry) (fs : List (Int × Nat)) (i : Nat), es.map kvOf = fs.map entOf → (fs.map (·.1)).Nodup → (x, F) ∈ fs →
    ∃ j, Instr.findNow (.int .i64) (.int .i64 x) es i = some (some (i + j, .pointer (some ⟨F, 0, none⟩))) ∧ fs.eraseIdx j = fs.filter (fun p => p.1 ≠ x) ∧ j < fs.length
  | [], [], _, _, _, h => by simp at h
  | [], f :: fs, i, h, _, _ => by simp at h
  | e :: es, [], i, h, _, _ => by simp at h
  | e :: es, f :: fs, i, h, hn, hm => by
    simp only [List.map_cons, List.cons.injEq] at h
    simp only [List.map_cons, List.nodup_cons] at hn
    have hk : e.key = .int .i64 f.1 := congrArg Prod.fst h.1
    have hv : e.val = .pointer (some ⟨f.2, 0, none⟩) := congrArg Prod.snd h.1
    unfold Instr.findNow
    by_cases hx : x = f.1
    · have hF : F = f.2 := by
        rcases List.mem_cons.1 hm with e | hm
        · exact congrArg Prod.snd e
        · exact absurd (hx ▸ List.mem_map.2 ⟨_, hm, rfl⟩) hn.1
      refine ⟨0, ?_, ?_, by simp⟩
      · have hne : (x == f.1) = true := by simp [hx]
        simp only [hk, Instr.sameNow, if_true, hne, hv, hF, Nat.add_zero]
      · have : ∀ p ∈ fs, p.1 ≠ x := fun p hp e => hn.1 (by rw [← hx, ← e]; exact List.mem_map.2 ⟨_, hp, rfl⟩)
        simp only [List.eraseIdx_cons_zero]
        rw [List.filter_cons_of_neg (by simp [hx]), List.filter_eq_self.2 (by simpa using this)]
    · have hm' : (x, F) ∈ fs := by
        rcases List.mem_cons.1 hm with e | hm
        · exact absurd (congrArg Prod.fst e) hx
        · exact hm
      obtain ⟨j, h1, h2, h3⟩ := findNow_hit es fs (i + 1) h.2 hn.2 hm'
      refine ⟨j + 1, ?_, ?_, by simp; omega⟩
      · have hne : (x == f.1) = false := by simp [hx]
        simp only [hk, Instr.sameNow, if_true, hne, h1]
        congr 3; omega
      · rw [List.eraseIdx_cons_succ, h2, List.filter_cons_of_pos (by simp; exact fun e => hx e.symm)]

section
variable {P : Program} {w : World} {M : Nat} {fs : List (Int × Nat)} {t k e : TypeId} {x : Int}

theorem run_findKey_now {kind : TypeDesc} (hk : P.underlying k = some kind) {v : Value} {es : List MapEntry} {r : Option (Nat × Value)} (h : Instr.findNow kind v es 0 = some r) : (Instr.findKey k v es).run P w = .ok r w := by
  unfold Instr.findKey
  simp [run_underlying hk, h, Result.andThen]

theorem checkKey_int (hk : P.underlying k = some (.int .i64)) (em : Bool) : (Instr.checkKey em 10000 k (.int .i64 x)).run P w = .ok () w :=
  MapKept.run_checkKey (k := .int .i64 x) hk rfl em 9999

theorem MapIs.hit (h : MapIs w M fs) (ht : P.underlying t = some (.map k e)) (hk : P.underlying k = some (.int .i64)) {F : Nat} (hm : (x, F) ∈ fs) :
    (Instr.lookup t (.map (some M)) (.int .i64 x) false).run P w = .ok (.pointer (some ⟨F, 0, none⟩)) w := by
  obtain ⟨es, clock, hb, hkv, hn, _⟩ := h
  obtain ⟨j, hf, _⟩ := findNow_hit es.toList fs 0 hkv hn hm
  simp [Instr.lookup, run_underlying ht, MapKept.run_getObj_map hb, checkKey_int hk, run_findKey_now hk hf, Result.andThen]


theorem MapIs.miss (h : MapIs w M fs) (ht : P.underlying t = some (.map k e)) (hk : P.underlying k = some (.int .i64)) (hz : (zeroValue e).run P w = .ok (.pointer none) w) (hm : ∀ p ∈ fs, p.1 ≠ x) :
    (Instr.lookup t (.map (some M)) (.int .i64 x) false).run P w = .ok (.pointer none) w := by
  obtain ⟨es, clock, hb, hkv, hn, _⟩ := h
  have hf := findNow_miss es.toList fs 0 hkv hm
  simp [Instr.lookup, run_underlying ht, MapKept.run_getObj_map hb, checkKey_int hk, run_findKey_now hk hf, hz, Result.andThen]

theorem grown_setBlock (w : World) {M : Nat} {o : Obj} (o' : Obj) (h : w.heap[M]? = some o) : w.grownBy (setBlock w M o') (some M) :=
  ⟨rfl, rfl, rfl, by simp [setBlock], fun i _ hi => (MapKept.heap_set h).2 i (fun e => hi (by rw [e]))⟩

/-- a new key -/
theorem MapIs.store (h : MapIs w M fs) (ht : P.underlying t = some (.map k e)) (hk : P.underlying k = some (.int .i64)) (hm : ∀ p ∈ fs, p.1 ≠ x) (F : Nat) :
    ∃ w', (Instr.mapUpdate t (.map (some M)) (.int .i64 x) (.pointer (some ⟨F, 0, none⟩))).run P w = .ok () w' ∧ MapIs w' M (fs ++ [(x, F)]) ∧ w.grownBy w' (some M) ∧ w'.heap.size = w.heap.size := by
  obtain ⟨es, clock, hb, hkv, hn, hnb, hc⟩ := h
  have hf := findNow_miss es.toList fs 0 hkv hm
  refine ⟨setBlock w M (.map (es.push { key := .int .i64 x, val := .pointer (some ⟨F, 0, none⟩), born := clock }) (clock + 1)), ?_, ⟨_, _, heap_setBlock_same hb _, ?_, ?_, ?_, ?_⟩, grown_setBlock w _ hb, by simp [setBlock]⟩
  · simp [Instr.mapUpdate, run_underlying ht, MapKept.run_getObj_map hb, checkKey_int hk, run_findKey_now hk hf, MapKept.run_setObj_map _ hb, Result.andThen, setBlock]
  · simp [hkv, kvOf, entOf]
  · rw [List.map_append, List.nodup_append]
    refine ⟨hn, by simp, ?_⟩
    rintro a ha b hb' rfl
    obtain ⟨p, hp, rfl⟩ := List.mem_map.1 ha
    simp at hb'
    exact hm p hp hb'
  · rw [Array.toList_push, List.map_append, List.nodup_append]
    refine ⟨hnb, by simp, ?_⟩
    rintro a ha b hb' rfl
    obtain ⟨p, hp, rfl⟩ := List.mem_map.1 ha
    simp at hb'
    have := hc p hp
    omega
  · intro e he
    rw [Array.toList_push, List.mem_append] at he
    rcases he with he | he
    · have := hc e he; omega
    · simp at he; subst he; simp

/-- delete -/
theorem MapIs.drop (h : MapIs w M fs) (ht : P.underlying t = some (.map k e)) (hk : P.underlying k = some (.int .i64)) (ty : TypeId) :
    ∃ w', (Builtin.delete_ #[t, k] ty #[.map (some M), .int .i64 x]).run P w = .ok (.tuple #[]) w' ∧ MapIs w' M (fs.filter (fun p => p.1 ≠ x)) ∧ w.grownBy w' (some M) ∧ w'.heap.size = w.heap.size := by
  obtain ⟨es, clock, hb, hkv, hn, hnb, hc⟩ := h
  by_cases hm : ∀ p ∈ fs, p.1 ≠ x
  · have hf := findNow_miss es.toList fs 0 hkv hm
    refine ⟨setBlock w M (.map es clock), ?_, ⟨es, clock, heap_setBlock_same hb _, ?_, ?_, hnb, hc⟩, grown_setBlock w _ hb, by simp [setBlock]⟩
    · simp [Builtin.delete_, run_underlying ht, MapKept.run_getObj_map hb, checkKey_int hk, run_findKey_now hk hf, MapKept.run_setObj_map _ hb, Result.andThen, setBlock]
    · rw [List.filter_eq_self.2 (by simpa using hm)]; exact hkv
    · rw [List.filter_eq_self.2 (by simpa using hm)]; exact hn
  · obtain ⟨⟨y, F⟩, hp, rfl⟩ : ∃ p ∈ fs, p.1 = x := by
      simpa using hm
    obtain ⟨j, hf, he, hj⟩ := findNow_hit es.toList fs 0 hkv hn hp
    rw [Nat.zero_add] at hf
    have hl : es.toList.length = fs.length := by have := congrArg List.length hkv; simpa using this
    have hsub : (es.eraseIdxIfInBounds j).toList = es.toList.eraseIdx j := by
      unfold Array.eraseIdxIfInBounds
      rw [dif_pos (by rw [← Array.length_toList, hl]; exact hj)]
      simp
    refine ⟨setBlock w M (.map (es.eraseIdxIfInBounds j) clock), ?_, ⟨_, clock, heap_setBlock_same hb _, ?_, ?_, ?_, ?_⟩, grown_setBlock w _ hb, by simp [setBlock]⟩
    · simp [Builtin.delete_, run_underlying ht, MapKept.run_getObj_map hb, checkKey_int hk, run_findKey_now hk hf, MapKept.run_setObj_map _ hb, Result.andThen, setBlock]
    · rw [hsub, ← he, Go.ChangeMaps.map_eraseIdx, Go.ChangeMaps.map_eraseIdx, hkv]
    · exact (List.filter_sublist.map _).nodup hn
    · rw [hsub]; exact ((List.eraseIdx_sublist _ _).map _).nodup hnb
    · rw [hsub]; exact fun e he => hc e ((List.eraseIdx_sublist _ _).subset he)

theorem MapIs.len (h : MapIs w M fs) (ht : P.underlying t = some (.map k e)) (ty : TypeId) : (Builtin.len_ #[t] ty #[.map (some M)]).run P w = .ok (.int .i64 fs.length) w := by
  obtain ⟨es, clock, hb, hkv, _⟩ := h
  have hl : es.toList.length = fs.length := by have := congrArg List.length hkv; simpa using this
  have hl' : es.size = fs.length := by simpa using hl
  simp [Builtin.len_, run_underlying ht, MapKept.run_getObj_map hb, Result.andThen, goInt, hl']

/-- 'for _, v := range m' under way: those still to come -/
def Ranging (w : World) (M r : Nat) (fs left : List (Int × Nat)) : Prop :=
  ∃ es clock since seen c0, w.heap[M]? = some (.map es clock) ∧ (es.toList.map kvOf = fs.map entOf ∧ (fs.map (·.1)).Nodup ∧ (es.toList.map (·.born)).Nodup ∧ ∀ e ∈ es.toList, e.born < clock) ∧
    w.heap[r]? = some (.mapIter (some M) since seen c0) ∧ (∀ x ∈ es.toList, x.born < since) ∧ since ≤ c0 ∧ (leftOf es seen).toList.map kvOf = left.map entOf ∧ since ≤ clock

theorem Ranging.map {r : Nat} {left : List (Int × Nat)} (h : Ranging w M r fs left) : MapIs w M fs := by
  obtain ⟨es, clock, since, seen, c0, h1, h2, _⟩ := h; exact ⟨es, clock, h1, h2⟩
theorem Ranging.lt {r : Nat} {left : List (Int × Nat)} (h : Ranging w M r fs left) : r < w.heap.size := by
  obtain ⟨es, clock, since, seen, c0, h1, h2, h3, _⟩ := h; exact lt_of_block h3
theorem Ranging.frame {w' : World} {r : Nat} {left : List (Int × Nat)} (h : Ranging w M r fs left) (e1 : w'.heap[M]? = w.heap[M]?) (e2 : w'.heap[r]? = w.heap[r]?) : Ranging w' M r fs left := by
  obtain ⟨es, clock, since, seen, c0, h1, h2, h3, h4⟩ := h; exact ⟨es, clock, since, seen, c0, e1.trans h1, h2, e2.trans h3, h4⟩

theorem MapIs.range (h : MapIs w M fs) (ht : P.underlying t = some (.map k e)) :
    ∃ w', (Instr.range t (.map (some M))).run P w = .ok (.pointer (some ⟨w.heap.size, 0, none⟩)) w' ∧ Ranging w' M w.heap.size fs fs ∧ Below w.heap.size w w' ∧ w'.heap.size = w.heap.size + 1 := by
  have hlt := h.lt
  obtain ⟨es, clock, hb, hkv, hn, hnb, hc⟩ := h
  refine ⟨_, run_range_map w t k e M es clock ht hb, ⟨es, clock, clock, #[], clock, (Below.heap_alloc w _ M hlt).trans hb, ⟨hkv, hn, hnb, hc⟩, heap_alloc_new w _, hc, Nat.le_refl _, ?_, Nat.le_refl _⟩, (Below.refl _ _).alloc (Nat.le_refl _) _, by simp⟩
  have : leftOf es #[] = es := by
    unfold leftOf
    exact Array.filter_eq_self.2 (by simp)
  rw [this]; exact hkv

theorem filter_born (e : MapEntry) (l : List MapEntry) (hn : (l.map (·.born)).Nodup) : ∀ j, l[j]? = some e → l.filter (fun x => !(x.born == e.born)) = l.eraseIdx j := by
  induction l with
  | nil => simp
  | cons a l ih =>
    intro j hj
    simp only [List.map_cons, List.nodup_cons] at hn
    match j with
    | 0 =>
      simp at hj; subst hj
      rw [List.filter_cons_of_neg (by simp), List.eraseIdx_cons_zero]
      refine List.filter_eq_self.2 (fun x hx => ?_)
      have : x.born ≠ a.born := fun e => hn.1 (e ▸ List.mem_map.2 ⟨x, hx, rfl⟩)
      simpa using this
    | j + 1 =>
      rw [List.getElem?_cons_succ] at hj
      have : a.born ≠ e.born := fun h => hn.1 (h ▸ List.mem_map.2 ⟨e, List.mem_of_getElem? hj, rfl⟩)
      rw [List.filter_cons_of_pos (by simpa using this), List.eraseIdx_cons_succ, ih hn.2 j hj]

/-- the step: nothing is left, or one of those still to come -/
theorem Ranging.next {r : Nat} {left : List (Int × Nat)} (h : Ranging w M r fs left) (ty : TypeId) :
    (left = [] ∧ (Instr.next (.pointer (some ⟨r, 0, none⟩)) false ty).run P w = .ok (.tuple #[.bool false]) w) ∨
    ∃ j x F w', j < left.length ∧ left[j]? = some (x, F) ∧ (x, F) ∈ fs ∧ (Instr.next (.pointer (some ⟨r, 0, none⟩)) false ty).run P w = .ok (.tuple #[.bool true, .int .i64 x, .pointer (some ⟨F, 0, none⟩)]) w' ∧
      Ranging w' M r fs (left.eraseIdx j) ∧ w.grownBy w' (some r) ∧ w'.heap.size = w.heap.size ∧
      (Instr.entry (.pointer (some ⟨r, 0, none⟩))).run P w' = .ok (.tuple #[.int .i64 x, .pointer (some ⟨F, 0, none⟩)]) w' := by
  obtain ⟨es, clock, since, seen, c0, hb, ⟨hkv, hn, hnb, hc⟩, hr, hold, hsc, hleft, hck⟩ := h
  have hne : r ≠ M := fun e => by rw [e, hb] at hr; cases hr
  rcases run_next_at (P := P) w ty r M since c0 seen es clock hr hb hold hsc with ⟨h0, hrun⟩ | ⟨e, he, w1, hal, hrun⟩
  · left
    refine ⟨?_, hrun⟩
    have : (leftOf es seen).toList = [] := by apply List.eq_nil_of_length_eq_zero; simpa using h0
    rw [this] at hleft
    simpa using hleft.symm
  · right
    obtain ⟨j, hj⟩ := List.getElem?_of_mem he
    have hjl : ((leftOf es seen).toList.map kvOf)[j]? = some (kvOf e) := by rw [List.getElem?_map, hj]; rfl
    rw [hleft, List.getElem?_map] at hjl
    obtain ⟨⟨x, F⟩, hp, hpe⟩ := Option.map_eq_some_iff.1 hjl
    have hk : e.key = .int .i64 x := (congrArg Prod.fst hpe).symm
    have hv : e.val = .pointer (some ⟨F, 0, none⟩) := (congrArg Prod.snd hpe).symm
    obtain ⟨hem, hes⟩ := mem_left he
    have hmem : (x, F) ∈ fs := by
      have : kvOf e ∈ es.toList.map kvOf := List.mem_map.2 ⟨e, hem, rfl⟩
      rw [hkv] at this
      obtain ⟨⟨y, G⟩, hq, hqe⟩ := List.mem_map.1 this
      have h1 : Value.int .i64 y = .int .i64 x := (congrArg Prod.fst hqe).trans hk
      have h2 : Value.pointer (some ⟨G, 0, none⟩) = .pointer (some ⟨F, 0, none⟩) := (congrArg Prod.snd hqe).trans hv
      simp at h1 h2
      obtain ⟨rfl, rfl⟩ := And.intro h1 h2
      exact hq
    have hr1 : w1.heap[r]? = some (.mapIter (some M) since seen c0) := by rcases hal with rfl | rfl <;> exact hr
    have hb1 : w1.heap[M]? = some (.map es clock) := by rcases hal with rfl | rfl <;> exact hb
    have hset := MapKept.heap_set (o' := .mapIter (some M) since (seen.push e.born) clock) hr1
    have hb' : (setBlock w1 r (.mapIter (some M) since (seen.push e.born) clock)).heap[M]? = some (.map es clock) := (hset.2 M (fun e1 => hne e1.symm)).trans hb1
    refine ⟨j, x, F, setBlock w1 r (.mapIter (some M) since (seen.push e.born) clock), (List.getElem?_eq_some_iff.1 hp).1, hp, hmem, ?_, ⟨es, clock, since, seen.push e.born, clock, hb', ⟨hkv, hn, hnb, hc⟩, hset.1, hold, hck, ?_, hck⟩, ?_, ?_, ?_⟩
    · rw [hrun, hk, hv]
    · have hsub : (leftOf es seen).toList.Sublist es.toList := by unfold leftOf; rw [Array.toList_filter]; exact List.filter_sublist
      have : (leftOf es (seen.push e.born)).toList = (leftOf es seen).toList.eraseIdx j := by
        rw [← filter_born e _ ((hsub.map _).nodup hnb) j hj]
        unfold leftOf
        rw [Array.toList_filter, Array.toList_filter, List.filter_filter]
        congr 1
        funext y
        rw [contains_push, Bool.not_or, Bool.and_comm]
      rw [this, Go.ChangeMaps.map_eraseIdx, Go.ChangeMaps.map_eraseIdx, hleft]
    · have := grown_setBlock w1 (.mapIter (some M) since (seen.push e.born) clock) hr1
      rcases hal with rfl | rfl
      · exact this
      · exact ⟨this.os, this.tape, this.output, this.size, this.block⟩
    · rcases hal with rfl | rfl <;> simp [setBlock]
    · rw [← hk, ← hv]; exact run_entry_at _ r M since seen es clock e hset.1 hb' hem hnb
end
end Go.Proofs.Ytplafccjgbeojaa
