/- slot.Slot.add -/
import Derived.Test.YtplafccjgbeojaaChg
open Go Go.RowKit
namespace Go.Proofs.Ytplafccjgbeojaa
open Pm

theorem addTurn_hit {x : Int} {t : Turn} : ∀ (l : List Follow), (l.map (·.xid)).Nodup → ∀ {f : Follow}, f ∈ l → f.xid = x → addTurn l x t = l.map fun g => if g.xid = x then { f with turns := f.turns ++ [t] } else g
  | [], _, _, hf, _ => by simp at hf
  | g :: l, hn, f, hf, hx => by
    simp only [List.map_cons, List.nodup_cons] at hn
    unfold addTurn
    by_cases hg : g.xid = x
    · have : g = f := by
        rcases List.mem_cons.1 hf with rfl | hf
        · rfl
        · exact absurd (List.mem_map.2 ⟨f, hf, hx.trans hg.symm⟩) hn.1
      subst this
      have h2 : l.map (fun g' => if g'.xid = x then { g with turns := g.turns ++ [t] } else g') = l := by
        have : ∀ g' ∈ l, g'.xid ≠ x := fun g' hg' e => hn.1 (List.mem_map.2 ⟨g', hg', e.trans hg.symm⟩)
        calc l.map (fun g' => if g'.xid = x then { g with turns := g.turns ++ [t] } else g') = l.map id := List.map_congr_left fun g' hg' => by simp [this g' hg']
          _ = l := by simp
      subst hg
      simp only [List.map_cons, if_true, h2]
    · have hf' : f ∈ l := by
        rcases List.mem_cons.1 hf with rfl | hf
        · exact absurd hx hg
        · exact hf
      simp only [List.map_cons, hg, if_false, addTurn_hit l hn.2 hf' hx]

theorem addTurn_miss {x : Int} {t : Turn} : ∀ (l : List Follow), (∀ f ∈ l, f.xid ≠ x) → addTurn l x t = l ++ [⟨x, t.lsn, [t]⟩]
  | [], _ => rfl
  | g :: l, h => by
    unfold addTurn
    simp only [h g (by simp), if_false, addTurn_miss l (fun f hf => h f (by simp [hf])), List.cons_append]

theorem elem_turns : Elem Try.prog 74 78 6 104 (.agg #[.int .i64 0, .int .i64 0, .string .empty, .slice none 0 0, .slice none 0 0, .slice none 0 0]) := .mk' Try.underlying74 (by kernel_rfl) rfl (by decide)

/-- a list has grown by one turn: in the memory that 'append' and a store leave -/
theorem RepP.grow5 {w w1 w2 : World} {K : Nat → Tag} {i S : Nat} {s : Slot} {tv : Value} {M : Nat} {qv : Value} {tr qr : List (List Value)} {G : List (Follow × Nat)} (h : RepP w K i S s tv M qv tr qr G) (hi : i ≠ 0)
    {f : Follow} {F : Nat} (hm : (f, F) ∈ G) {hv sv : Value} {r1 r2 : List (List Value)} (q1 : w.heap[F]? = some (.cells #[.int .i64 f.first, hv, sv] 86 (0, 0))) (q2 : K F = (i, 4, f.xid))
    (q3 : Row w K 78 6 (i, 5, f.xid) hv r1) (q4 : Row w K 78 6 (i, 6, f.xid) sv r2) (q5 : Rel₂ (TurnRow w (Imm K)) [] dTurn (r1 ++ r2) f.turns) (q6 : r1.length ≤ 16) (q7 : r1.length < 16 ∧ r2 = [])
    (hb : Below w.heap.size w w1) {rt : List Value} {t : Turn} (ht : TurnRow w (Imm K) rt t) (hrt : rt.length = 6) {v2 : Value} (hown : w2.ownsRow 0 78 6 v2 (r1.length + 1) (r1 ++ [rt]).flatten)
    (hg : w1.grownBy w2 hv.ownBlock) (hl : v2.ownBlock = hv.ownBlock ∨ v2.ownBlock = some w1.heap.size) :
    ∃ K', Ext K K' w.heap.size ∧ Step K i w (w2.setCell ⟨F, 1, none⟩ v2) ∧ Rep (w2.setCell ⟨F, 1, none⟩ v2) K' i S { s with follows := addTurn s.follows f.xid t } := by
  have hFl := lt_of_block q1
  have hvF : hv.ownBlock ≠ some F := fun e => by have := q3.col F e; rw [q2] at this; simp at this
  have hv2F : v2.ownBlock ≠ some F := by
    rcases hl with e | e
    · rw [e]; exact hvF
    · rw [e]; have := hb.size; simp; omega
  have hs1 := hb.size
  have hs2 := hg.size
  have hold : ∀ b, b < w.heap.size → b ≠ F → hv.ownBlock ≠ some b → (w2.setCell ⟨F, 1, none⟩ v2).heap[b]? = w.heap[b]? := fun b hl hF hv =>
    (Below.heap_setCell w2 ⟨F, 1, none⟩ v2 b hF).trans ((hg.block b (by omega) (fun e => hv e.symm)).trans (hb.block b hl))
  have hstep : Step K i w (w2.setCell ⟨F, 1, none⟩ v2) :=
    ((Step.of_below hb).grown hg (fun b hb' _ => by rw [q3.col b hb'])).set (fun _ => by rw [q2]) v2
  have hKx : Ext K (fun b => if b < w.heap.size then K b else if v2.ownBlock = some b then (i, 5, f.xid) else (0, 0, 0)) w.heap.size := fun b hb => by simp [hb]
  refine ⟨_, hKx, hstep, tv, M, qv, tr, qr, G.map fun g => if g.1.xid = f.xid then ({ f with turns := f.turns ++ [t] }, g.2) else g, ?_⟩
  have hF2 : w2.heap[F]? = some (.cells #[.int .i64 f.first, hv, sv] 86 (0, 0)) := (hg.block F (by omega) (fun e => hvF e.symm)).trans ((hb.block F hFl).trans q1)
  have hfin := h.upd (w' := w2.setCell ⟨F, 1, none⟩ v2) (f' := { f with turns := f.turns ++ [t] }) hm rfl hstep.size hKx
    (fun b hl h4 h5 h6 => hold b hl (fun e => h4 (e ▸ q2)) (fun e => h5 (q3.col b e))) hi ?_
  · rw [addTurn_hit s.follows (by rw [← h.fol, List.map_map]; have := h.map.nodup; rw [List.map_map] at this; exact this) (f := f) (by rw [← h.fol]; exact List.mem_map.2 ⟨_, hm, rfl⟩) rfl]
    exact hfin
  · have hOther : ∀ b, b < w.heap.size → K b = (i, 6, f.xid) → (w2.setCell ⟨F, 1, none⟩ v2).heap[b]? = w.heap[b]? := fun b hl hk =>
      hold b hl (fun e => by rw [e, q2] at hk; simp at hk) (fun e => by have := q3.col b e; rw [hk] at this; simp at this)
    have hTurn : ∀ {r : List Value} {y : Turn}, TurnRow w (Imm K) r y → TurnRow (w2.setCell ⟨F, 1, none⟩ v2) (Imm fun b => if b < w.heap.size then K b else if v2.ownBlock = some b then (i, 5, f.xid) else (0, 0, 0)) r y := fun hr =>
      framed_turn.go (C := fun c => c.1 = i) hr hstep.size hKx (fun b hl hn => hstep.block b hl hn) (fun e => hi e.symm)
    have hNew : Row (w2.setCell ⟨F, 1, none⟩ v2) (fun b => if b < w.heap.size then K b else if v2.ownBlock = some b then (i, 5, f.xid) else (0, 0, 0)) 78 6 (i, 5, f.xid) v2 (r1 ++ [rt]) := by
      refine ⟨?_, ?_, ?_⟩
      · rw [List.length_append]; exact hown.kept (grown_set w2 ⟨F, 1, none⟩ v2) (.inr hv2F)
      · intro r hr
        rcases List.mem_append.1 hr with hr | hr
        · exact q3.len r hr
        · simp at hr; subst hr; exact hrt
      · intro b hb'
        by_cases hbl : b < w.heap.size
        · simp only [hbl, if_true]
          rcases hl with e | e
          · exact q3.col b (e ▸ hb')
          · rw [e] at hb'; simp at hb'; omega
        · simp only [hbl, if_false, hb', if_true]
    refine ⟨v2, sv, r1 ++ [rt], r2, (blk_set hF2 1 v2).trans rfl, (hKx F hFl).trans q2, hNew, q4.frame hKx hOther, ?_, by simp; omega, .inl q7.2⟩
    show Rel₂ _ [] dTurn ((r1 ++ [rt]) ++ r2) (f.turns ++ [t])
    rw [show (r1 ++ [rt]) ++ r2 = (r1 ++ r2) ++ [rt] by rw [q7.2]; simp]
    exact (q5.imp fun _ _ h => hTurn h).snoc (hTurn ht)

/-- a list has grown by one turn: in the memory that 'append' and a store leave -/
theorem RepP.grow6 {w w1 w2 : World} {K : Nat → Tag} {i S : Nat} {s : Slot} {tv : Value} {M : Nat} {qv : Value} {tr qr : List (List Value)} {G : List (Follow × Nat)} (h : RepP w K i S s tv M qv tr qr G) (hi : i ≠ 0)
    {f : Follow} {F : Nat} (hm : (f, F) ∈ G) {hv sv : Value} {r1 r2 : List (List Value)} (q1 : w.heap[F]? = some (.cells #[.int .i64 f.first, hv, sv] 86 (0, 0))) (q2 : K F = (i, 4, f.xid))
    (q3 : Row w K 78 6 (i, 5, f.xid) hv r1) (q4 : Row w K 78 6 (i, 6, f.xid) sv r2) (q5 : Rel₂ (TurnRow w (Imm K)) [] dTurn (r1 ++ r2) f.turns) (q6 : r1.length ≤ 16) (q7 : r1.length = 16)
    (hb : Below w.heap.size w w1) {rt : List Value} {t : Turn} (ht : TurnRow w (Imm K) rt t) (hrt : rt.length = 6) {v2 : Value} (hown : w2.ownsRow 0 78 6 v2 (r2.length + 1) (r2 ++ [rt]).flatten)
    (hg : w1.grownBy w2 sv.ownBlock) (hl : v2.ownBlock = sv.ownBlock ∨ v2.ownBlock = some w1.heap.size) :
    ∃ K', Ext K K' w.heap.size ∧ Step K i w (w2.setCell ⟨F, 2, none⟩ v2) ∧ Rep (w2.setCell ⟨F, 2, none⟩ v2) K' i S { s with follows := addTurn s.follows f.xid t } := by
  have hFl := lt_of_block q1
  have hvF : sv.ownBlock ≠ some F := fun e => by have := q4.col F e; rw [q2] at this; simp at this
  have hv2F : v2.ownBlock ≠ some F := by
    rcases hl with e | e
    · rw [e]; exact hvF
    · rw [e]; have := hb.size; simp; omega
  have hs1 := hb.size
  have hs2 := hg.size
  have hold : ∀ b, b < w.heap.size → b ≠ F → sv.ownBlock ≠ some b → (w2.setCell ⟨F, 2, none⟩ v2).heap[b]? = w.heap[b]? := fun b hl hF hv =>
    (Below.heap_setCell w2 ⟨F, 2, none⟩ v2 b hF).trans ((hg.block b (by omega) (fun e => hv e.symm)).trans (hb.block b hl))
  have hstep : Step K i w (w2.setCell ⟨F, 2, none⟩ v2) :=
    ((Step.of_below hb).grown hg (fun b hb' _ => by rw [q4.col b hb'])).set (fun _ => by rw [q2]) v2
  have hKx : Ext K (fun b => if b < w.heap.size then K b else if v2.ownBlock = some b then (i, 6, f.xid) else (0, 0, 0)) w.heap.size := fun b hb => by simp [hb]
  refine ⟨_, hKx, hstep, tv, M, qv, tr, qr, G.map fun g => if g.1.xid = f.xid then ({ f with turns := f.turns ++ [t] }, g.2) else g, ?_⟩
  have hF2 : w2.heap[F]? = some (.cells #[.int .i64 f.first, hv, sv] 86 (0, 0)) := (hg.block F (by omega) (fun e => hvF e.symm)).trans ((hb.block F hFl).trans q1)
  have hfin := h.upd (w' := w2.setCell ⟨F, 2, none⟩ v2) (f' := { f with turns := f.turns ++ [t] }) hm rfl hstep.size hKx
    (fun b hl h4 h5 h6 => hold b hl (fun e => h4 (e ▸ q2)) (fun e => h6 (q4.col b e))) hi ?_
  · rw [addTurn_hit s.follows (by rw [← h.fol, List.map_map]; have := h.map.nodup; rw [List.map_map] at this; exact this) (f := f) (by rw [← h.fol]; exact List.mem_map.2 ⟨_, hm, rfl⟩) rfl]
    exact hfin
  · have hOther : ∀ b, b < w.heap.size → K b = (i, 5, f.xid) → (w2.setCell ⟨F, 2, none⟩ v2).heap[b]? = w.heap[b]? := fun b hl hk =>
      hold b hl (fun e => by rw [e, q2] at hk; simp at hk) (fun e => by have := q4.col b e; rw [hk] at this; simp at this)
    have hTurn : ∀ {r : List Value} {y : Turn}, TurnRow w (Imm K) r y → TurnRow (w2.setCell ⟨F, 2, none⟩ v2) (Imm fun b => if b < w.heap.size then K b else if v2.ownBlock = some b then (i, 6, f.xid) else (0, 0, 0)) r y := fun hr =>
      framed_turn.go (C := fun c => c.1 = i) hr hstep.size hKx (fun b hl hn => hstep.block b hl hn) (fun e => hi e.symm)
    have hNew : Row (w2.setCell ⟨F, 2, none⟩ v2) (fun b => if b < w.heap.size then K b else if v2.ownBlock = some b then (i, 6, f.xid) else (0, 0, 0)) 78 6 (i, 6, f.xid) v2 (r2 ++ [rt]) := by
      refine ⟨?_, ?_, ?_⟩
      · rw [List.length_append]; exact hown.kept (grown_set w2 ⟨F, 2, none⟩ v2) (.inr hv2F)
      · intro r hr
        rcases List.mem_append.1 hr with hr | hr
        · exact q4.len r hr
        · simp at hr; subst hr; exact hrt
      · intro b hb'
        by_cases hbl : b < w.heap.size
        · simp only [hbl, if_true]
          rcases hl with e | e
          · exact q4.col b (e ▸ hb')
          · rw [e] at hb'; simp at hb'; omega
        · simp only [hbl, if_false, hb', if_true]
    refine ⟨hv, v2, r1, r2 ++ [rt], (blk_set hF2 2 v2).trans rfl, (hKx F hFl).trans q2, q3.frame hKx hOther, hNew, ?_, q6, .inr q7⟩
    show Rel₂ _ [] dTurn (r1 ++ (r2 ++ [rt])) (f.turns ++ [t])
    rw [show r1 ++ (r2 ++ [rt]) = (r1 ++ r2) ++ [rt] by simp]
    exact (q5.imp fun _ _ h => hTurn h).snoc (hTurn ht)

theorem addTurn_snoc {x : Int} {t : Turn} (l : List Follow) (h : ∀ f ∈ l, f.xid ≠ x) : addTurn (l ++ [⟨x, t.lsn, []⟩]) x t = addTurn l x t := by
  rw [addTurn_miss l h]
  induction l with
  | nil => simp [addTurn]
  | cons g l ih =>
    simp only [List.cons_append]
    unfold addTurn
    simp only [h g (by simp), if_false, ih (fun f hf => h f (by simp [hf]))]

theorem turns_le {l : List Follow} {n : Nat} (h : ∀ f ∈ l, f.turns.length ≤ n) {f : Follow} (hf : f ∈ l) : f.turns.length ≤ n := h f hf

set_option maxRecDepth 100000 in
set_option maxHeartbeats 1600000 in
theorem add_calls (Kc : Nat → Tag) (i S : Nat) (s : Slot) (x : Int) (rt : List Value) (t : Turn) (w : World) (h : Rep w Kc i S s) (hi : i ≠ 0) (ht : TurnRow w (Imm Kc) rt t) (hsz : ∀ f ∈ s.follows, f.turns.length ≤ 1000000) :
    Calls Try.prog 26 #[.pointer (some ⟨S, 0, none⟩), .int .i64 x, .agg rt.toArray] w fun e w' => e = .returned (.tuple #[]) ∧ ∃ K', Ext Kc K' w.heap.size ∧ Step Kc i w w' ∧ Rep w' K' i S { s with follows := addTurn s.follows x t } := by
  obtain ⟨rc, rfl, a1, n1, c1, a2, n2, c2, a3, n3, c3, rfl, hn, ho, hw⟩ := ht
  have hBo : Below w.heap.size w (w.alloc (.cells #[.int .i64 t.lsn, .int .i64 t.ch.kind, .string t.ch.table, .slice a1 n1 c1, .slice a2 n2 c2, .slice a3 n3 c3] 78 (0, 0))) := (Below.refl _ _).alloc (Nat.le_refl _) _
  obtain ⟨K0, hK0, hBc⟩ : ∃ K0 : Nat → Tag, Ext Kc K0 w.heap.size ∧ K0 w.heap.size = (0, 0, 0) := ⟨fun b => if b < w.heap.size then Kc b else (0, 0, 0), fun b hb => by simp [hb], by simp⟩
  have h0 := h.below hBo hK0
  have hn := (hn.mono (Q := fun b => Imm Kc b ∧ Imm K0 b) (fun b hb hl => ⟨hb, imm_ext hK0 b hb hl⟩)).frame ((Same.of_below hBo).mono fun b hb => hb) |>.mono fun b hb _ => hb.2
  have ho := (ho.mono (Q := fun b => Imm Kc b ∧ Imm K0 b) (fun b hb hl => ⟨hb, imm_ext hK0 b hb hl⟩)).frame ((Same.of_below hBo).mono fun b hb => hb) |>.mono fun b hb _ => hb.2
  have hw := (hw.mono (Q := fun b => Imm Kc b ∧ Imm K0 b) (fun b hb hl => ⟨hb, imm_ext hK0 b hb hl⟩)).frame ((Same.of_below hBo).mono fun b hb => hb) |>.mono fun b hb _ => hb.2
  have hTB : (w.alloc (.cells #[.int .i64 t.lsn, .int .i64 t.ch.kind, .string t.ch.table, .slice a1 n1 c1, .slice a2 n2 c2, .slice a3 n3 c3] 78 (0, 0))).heap[w.heap.size]? = some (.cells #[.int .i64 t.lsn, .int .i64 t.ch.kind, .string t.ch.table, .slice a1 n1 c1, .slice a2 n2 c2, .slice a3 n3 c3] 78 (0, 0)) := heap_alloc_new w (.cells #[.int .i64 t.lsn, .int .i64 t.ch.kind, .string t.ch.table, .slice a1 n1 c1, .slice a2 n2 c2, .slice a3 n3 c3] 78 (0, 0))
  have hstep0 : Step Kc i w (w.alloc (.cells #[.int .i64 t.lsn, .int .i64 t.ch.kind, .string t.ch.table, .slice a1 n1 c1, .slice a2 n2 c2, .slice a3 n3 c3] 78 (0, 0))) := Step.of_below hBo
  clear h
  obtain ⟨tv, M, qv, tr, qr, G, h⟩ := h0
  obtain ⟨sc', sf, sl⟩ := bfacts h.blk
  by_cases hit : ∃ g ∈ G, g.1.xid = x
  · obtain ⟨⟨f, F⟩, hm, hx⟩ := hit
    simp only at hx
    subst hx
    obtain ⟨hv, sv, r1, r2, q1, q2, q3, q4, q5, q6, q7⟩ := h.each _ hm
    have hfl : f.turns.length ≤ 1000000 := hsz f (by rw [← h.fol]; exact List.mem_map.2 ⟨_, hm, rfl⟩)
    have hrl : r1.length + r2.length = f.turns.length := by have := q5.1; simpa using this
    have hlook := h.map.hit (P := Try.prog) (t := 68) Try.underlying68 Try.underlying3 (x := f.xid) (F := F) (List.mem_map.2 ⟨_, hm, rfl⟩)
    obtain ⟨fc, ff, fl⟩ := bfacts q1
    obtain ⟨ha, hc, rfl, hq1, hq2, hq3⟩ := q3.open
    obtain ⟨sa, sc, rfl, sq1, sq2, sq3⟩ := q4.open
    go_enter Try.func26, Try.ntmps26
    go_wp2_with fail
    · rename_i hlt
      generalize hWg : w.alloc (.cells #[.int .i64 t.lsn, .int .i64 t.ch.kind, .string t.ch.table, .slice a1 n1 c1, .slice a2 n2 c2, .slice a3 n3 c3] 78 (0, 0)) = W0 at *
      have hFl := lt_of_block q1
      have hb2 : Below W0.heap.size W0 ((W0.alloc (.cells #[.int .i64 t.lsn, .int .i64 t.ch.kind, .string t.ch.table, .slice a1 n1 c1, .slice a2 n2 c2, .slice a3 n3 c3] 78 (0, 0))).drew) := ((Below.refl _ W0).alloc (Nat.le_refl _) (.cells #[.int .i64 t.lsn, .int .i64 t.ch.kind, .string t.ch.table, .slice a1 n1 c1, .slice a2 n2 c2, .slice a3 n3 c3] 78 (0, 0))).drew
      refine wp_region_plan (fun W => W.heap[F]? = some (.cells #[.int .i64 f.first, .slice ha r1.length hc, .slice sa r2.length sc] 86 (0, 0)) ∧ W.heap[w.heap.size]? = some (.cells #[.int .i64 t.lsn, .int .i64 t.ch.kind, .string t.ch.table, .slice a1 n1 c1, .slice a2 n2 c2, .slice a3 n3 c3] 78 (0, 0))) [10] [(0, 0), (1, 0), (2, 0), (3, 0), (4, 1), (5, 1), (6, 2), (7, 2), (8, 0), (9, 0), (10, 2)] (by kernel_rfl) (by kernel_rfl) (fun _ _ d _ _ h => by first | exact absurd h.1 (fun h => by cases h) | (cases d <;> exact h)) ?_
      have hS : W0.drew.heap[F]? = some (.cells #[.int .i64 f.first, .slice ha r1.length hc, .slice sa r2.length sc] 86 (0, 0)) ∧ W0.drew.heap[w.heap.size]? = some (.cells #[.int .i64 t.lsn, .int .i64 t.ch.kind, .string t.ch.table, .slice a1 n1 c1, .slice a2 n2 c2, .slice a3 n3 c3] 78 (0, 0)) := ⟨q1, hTB⟩
      repeat (first | (refine plan_soft rfl rfl rfl ?_; intro K hK; go_big_quiet_op; go_big_quiet_on) | (refine plan_load hS rfl rfl rfl rfl (fun w' hw' => loadVar_one (by kernel_rfl) (((bfacts hw'.1).1 _).trans rfl)) ?_; (try simp only [Act.put, List.setIfInBounds_toArray, List.set_cons_zero, List.set_cons_succ])) | (refine plan_load hS rfl rfl rfl rfl (fun w' hw' => run_loadVar_row _ _ _ _ _ _ _ hw'.2 Try.underlying78 rfl (by kernel_rfl)) ?_; (try simp only [Act.put, List.setIfInBounds_toArray, List.set_cons_zero, List.set_cons_succ])))
      refine plan_do rfl rfl ?_; intro K hK
      go_wp2_with fail
      have hx1 := (slat_new (w := W0) (e := 78) (cs := #[.int .i64 t.lsn, .int .i64 t.ch.kind, .string t.ch.table, .slice a1 n1 c1, .slice a2 n2 c2, .slice a3 n3 c3]) (k := 6) (m := 1) [[.int .i64 t.lsn, .int .i64 t.ch.kind, .string t.ch.table, .slice a1 n1 c1, .slice a2 n2 c2, .slice a3 n3 c3]] rfl (by simp) rfl (by simp)).frame ((Same.refl _ _).drew)
      have ho1 := owns_below q3.owns hb2
      have hS' : ((W0.alloc (.cells #[.int .i64 t.lsn, .int .i64 t.ch.kind, .string t.ch.table, .slice a1 n1 c1, .slice a2 n2 c2, .slice a3 n3 c3] 78 (0, 0))).drew).heap[F]? = some (.cells #[.int .i64 f.first, .slice ha r1.length hc, .slice sa r2.length sc] 86 (0, 0)) ∧ ((W0.alloc (.cells #[.int .i64 t.lsn, .int .i64 t.ch.kind, .string t.ch.table, .slice a1 n1 c1, .slice a2 n2 c2, .slice a3 n3 c3] 78 (0, 0))).drew).heap[w.heap.size]? = some (.cells #[.int .i64 t.lsn, .int .i64 t.ch.kind, .string t.ch.table, .slice a1 n1 c1, .slice a2 n2 c2, .slice a3 n3 c3] 78 (0, 0)) := ⟨Below.blk hb2 q1, Below.blk hb2 hTB⟩
      refine ⟨fun _ _ => hS', ?_⟩
      clear hS
      (try simp only [Act.put, List.setIfInBounds_toArray, List.set_cons_zero, List.set_cons_succ])
      refine plan_do rfl rfl ?_; intro K hK
      refine oper_app1 _ _ _ rfl elem_turns (.slice ha r1.length hc) rfl ho1 (.slice (some ⟨W0.heap.size, 0, none⟩) 1 1) rfl [.int .i64 t.lsn, .int .i64 t.ch.kind, .string t.ch.table, .slice a1 n1 c1, .slice a2 n2 c2, .slice a3 n3 c3] hx1 (by simp [Value.oneCell']) (by omega) (by omega) ?_
      intro va vc w2 hown2 hg2 hl2
      have hFne : Value.ownBlock (.slice ha r1.length hc) ≠ some F := fun e => by have := q3.col F e; rw [q2] at this; simp at this
      have hBne : Value.ownBlock (.slice ha r1.length hc) ≠ some w.heap.size := fun e => hi (congrArg Prod.fst (hBc.symm.trans (q3.col _ e))).symm
      have hS2 : w2.heap[F]? = some (.cells #[.int .i64 f.first, .slice ha r1.length hc, .slice sa r2.length sc] 86 (0, 0)) ∧ w2.heap[w.heap.size]? = some (.cells #[.int .i64 t.lsn, .int .i64 t.ch.kind, .string t.ch.table, .slice a1 n1 c1, .slice a2 n2 c2, .slice a3 n3 c3] 78 (0, 0)) :=
        ⟨(hg2.block F (lt_of_block hS'.1) (fun e => hFne e.symm)).trans hS'.1, (hg2.block w.heap.size (lt_of_block hS'.2) (fun e => hBne e.symm)).trans hS'.2⟩
      refine hK _ _ ⟨fun _ _ => hS2, ?_⟩
      clear hK K
      obtain ⟨fc2, ff2, fl2⟩ := bfacts hS2.1
      (try simp only [Act.put, List.setIfInBounds_toArray, List.set_cons_zero, List.set_cons_succ])
      repeat (first | (refine plan_soft rfl rfl rfl ?_; intro K hK; go_big_quiet_op; go_big_quiet_on))
      (refine plan_do rfl rfl ?_; intro K hK; go_wp2_with fail; refine ⟨fun h => absurd h (by decide), ?_⟩)
      (try simp only [Act.put, List.setIfInBounds_toArray, List.set_cons_zero, List.set_cons_succ])
      show Exit.then _ _ _ _ _
      go_wp2
      obtain ⟨K', e1, e2, e3⟩ := h.grow5 hi hm q1 q2 q3 q4 q5 q6 ⟨by omega, by rcases q7 with q7 | q7; exact q7; omega⟩ hb2 ⟨_, rfl, a1, n1, c1, a2, n2, c2, a3, n3, c3, rfl, hn, ho, hw⟩ rfl hown2 hg2 hl2
      first | refine bodyPost_ret (v := .tuple #[]) (by simp [results, Try.results26, go_sem]) rfl ?_ | refine bodyPost_end (v := .tuple #[]) (by simp [results, Try.results26, go_sem]) rfl ?_
      exact ⟨rfl, K', fun b hb => (e1 b (by have := hstep0.size; omega)).trans (hK0 b hb), hstep0.trans hK0 e2, e3⟩
    · rename_i hlt
      generalize hWg : w.alloc (.cells #[.int .i64 t.lsn, .int .i64 t.ch.kind, .string t.ch.table, .slice a1 n1 c1, .slice a2 n2 c2, .slice a3 n3 c3] 78 (0, 0)) = W0 at *
      have hFl := lt_of_block q1
      have hb2 : Below W0.heap.size W0 ((W0.alloc (.cells #[.int .i64 t.lsn, .int .i64 t.ch.kind, .string t.ch.table, .slice a1 n1 c1, .slice a2 n2 c2, .slice a3 n3 c3] 78 (0, 0))).drew) := ((Below.refl _ W0).alloc (Nat.le_refl _) (.cells #[.int .i64 t.lsn, .int .i64 t.ch.kind, .string t.ch.table, .slice a1 n1 c1, .slice a2 n2 c2, .slice a3 n3 c3] 78 (0, 0))).drew
      refine wp_region_plan (fun W => W.heap[F]? = some (.cells #[.int .i64 f.first, .slice ha r1.length hc, .slice sa r2.length sc] 86 (0, 0)) ∧ W.heap[w.heap.size]? = some (.cells #[.int .i64 t.lsn, .int .i64 t.ch.kind, .string t.ch.table, .slice a1 n1 c1, .slice a2 n2 c2, .slice a3 n3 c3] 78 (0, 0))) [10] [(0, 0), (1, 0), (2, 0), (3, 0), (4, 1), (5, 1), (6, 2), (7, 2), (8, 0), (9, 0), (10, 2)] (by kernel_rfl) (by kernel_rfl) (fun _ _ d _ _ h => by first | exact absurd h.1 (fun h => by cases h) | (cases d <;> exact h)) ?_
      have hS : W0.drew.heap[F]? = some (.cells #[.int .i64 f.first, .slice ha r1.length hc, .slice sa r2.length sc] 86 (0, 0)) ∧ W0.drew.heap[w.heap.size]? = some (.cells #[.int .i64 t.lsn, .int .i64 t.ch.kind, .string t.ch.table, .slice a1 n1 c1, .slice a2 n2 c2, .slice a3 n3 c3] 78 (0, 0)) := ⟨q1, hTB⟩
      repeat (first | (refine plan_soft rfl rfl rfl ?_; intro K hK; go_big_quiet_op; go_big_quiet_on) | (refine plan_load hS rfl rfl rfl rfl (fun w' hw' => loadVar_one (by kernel_rfl) (((bfacts hw'.1).1 _).trans rfl)) ?_; (try simp only [Act.put, List.setIfInBounds_toArray, List.set_cons_zero, List.set_cons_succ])) | (refine plan_load hS rfl rfl rfl rfl (fun w' hw' => run_loadVar_row _ _ _ _ _ _ _ hw'.2 Try.underlying78 rfl (by kernel_rfl)) ?_; (try simp only [Act.put, List.setIfInBounds_toArray, List.set_cons_zero, List.set_cons_succ])))
      refine plan_do rfl rfl ?_; intro K hK
      go_wp2_with fail
      have hx1 := (slat_new (w := W0) (e := 78) (cs := #[.int .i64 t.lsn, .int .i64 t.ch.kind, .string t.ch.table, .slice a1 n1 c1, .slice a2 n2 c2, .slice a3 n3 c3]) (k := 6) (m := 1) [[.int .i64 t.lsn, .int .i64 t.ch.kind, .string t.ch.table, .slice a1 n1 c1, .slice a2 n2 c2, .slice a3 n3 c3]] rfl (by simp) rfl (by simp)).frame ((Same.refl _ _).drew)
      have ho1 := owns_below q4.owns hb2
      have hS' : ((W0.alloc (.cells #[.int .i64 t.lsn, .int .i64 t.ch.kind, .string t.ch.table, .slice a1 n1 c1, .slice a2 n2 c2, .slice a3 n3 c3] 78 (0, 0))).drew).heap[F]? = some (.cells #[.int .i64 f.first, .slice ha r1.length hc, .slice sa r2.length sc] 86 (0, 0)) ∧ ((W0.alloc (.cells #[.int .i64 t.lsn, .int .i64 t.ch.kind, .string t.ch.table, .slice a1 n1 c1, .slice a2 n2 c2, .slice a3 n3 c3] 78 (0, 0))).drew).heap[w.heap.size]? = some (.cells #[.int .i64 t.lsn, .int .i64 t.ch.kind, .string t.ch.table, .slice a1 n1 c1, .slice a2 n2 c2, .slice a3 n3 c3] 78 (0, 0)) := ⟨Below.blk hb2 q1, Below.blk hb2 hTB⟩
      refine ⟨fun _ _ => hS', ?_⟩
      clear hS
      (try simp only [Act.put, List.setIfInBounds_toArray, List.set_cons_zero, List.set_cons_succ])
      refine plan_do rfl rfl ?_; intro K hK
      refine oper_app1 _ _ _ rfl elem_turns (.slice sa r2.length sc) rfl ho1 (.slice (some ⟨W0.heap.size, 0, none⟩) 1 1) rfl [.int .i64 t.lsn, .int .i64 t.ch.kind, .string t.ch.table, .slice a1 n1 c1, .slice a2 n2 c2, .slice a3 n3 c3] hx1 (by simp [Value.oneCell']) (by omega) (by omega) ?_
      intro va vc w2 hown2 hg2 hl2
      have hFne : Value.ownBlock (.slice sa r2.length sc) ≠ some F := fun e => by have := q4.col F e; rw [q2] at this; simp at this
      have hBne : Value.ownBlock (.slice sa r2.length sc) ≠ some w.heap.size := fun e => hi (congrArg Prod.fst (hBc.symm.trans (q4.col _ e))).symm
      have hS2 : w2.heap[F]? = some (.cells #[.int .i64 f.first, .slice ha r1.length hc, .slice sa r2.length sc] 86 (0, 0)) ∧ w2.heap[w.heap.size]? = some (.cells #[.int .i64 t.lsn, .int .i64 t.ch.kind, .string t.ch.table, .slice a1 n1 c1, .slice a2 n2 c2, .slice a3 n3 c3] 78 (0, 0)) :=
        ⟨(hg2.block F (lt_of_block hS'.1) (fun e => hFne e.symm)).trans hS'.1, (hg2.block w.heap.size (lt_of_block hS'.2) (fun e => hBne e.symm)).trans hS'.2⟩
      refine hK _ _ ⟨fun _ _ => hS2, ?_⟩
      clear hK K
      obtain ⟨fc2, ff2, fl2⟩ := bfacts hS2.1
      (try simp only [Act.put, List.setIfInBounds_toArray, List.set_cons_zero, List.set_cons_succ])
      repeat (first | (refine plan_soft rfl rfl rfl ?_; intro K hK; go_big_quiet_op; go_big_quiet_on))
      (refine plan_do rfl rfl ?_; intro K hK; go_wp2_with fail; refine ⟨fun h => absurd h (by decide), ?_⟩)
      (try simp only [Act.put, List.setIfInBounds_toArray, List.set_cons_zero, List.set_cons_succ])
      simp only [planWp]
      obtain ⟨K', e1, e2, e3⟩ := h.grow6 hi hm q1 q2 q3 q4 q5 q6 (by omega) hb2 ⟨_, rfl, a1, n1, c1, a2, n2, c2, a3, n3, c3, rfl, hn, ho, hw⟩ rfl hown2 hg2 hl2
      first | refine bodyPost_ret (v := .tuple #[]) (by simp [results, Try.results26, go_sem]) rfl ?_ | refine bodyPost_end (v := .tuple #[]) (by simp [results, Try.results26, go_sem]) rfl ?_
      exact ⟨rfl, K', fun b hb => (e1 b (by have := hstep0.size; omega)).trans (hK0 b hb), hstep0.trans hK0 e2, e3⟩
  · have hmiss : ∀ p ∈ G.map keyF, p.1 ≠ x := by
      rintro p hp rfl
      obtain ⟨g, hg, rfl⟩ := List.mem_map.1 hp
      exact hit ⟨g, hg, rfl⟩
    have hlook := h.map.miss (P := Try.prog) (t := 68) Try.underlying68 Try.underlying3 (run_zero (by kernel_rfl) _) hmiss
    obtain ⟨wM, hstore, hmap, hgM, hszM⟩ := (h.map.frame (w' := (w.alloc (.cells #[.int .i64 t.lsn, .int .i64 t.ch.kind, .string t.ch.table, .slice a1 n1 c1, .slice a2 n2 c2, .slice a3 n3 c3] 78 (0, 0))).alloc (.cells #[.int .i64 t.lsn, .slice none 0 0, .slice none 0 0] 86 (0, 0))) (Below.heap_alloc _ _ _ h.map.lt)).store (P := Try.prog) (t := 68) Try.underlying68 Try.underlying3 hmiss (w.heap.size + 1)
    simp only [World.size_alloc] at hszM
    have hMl := h.map.lt
    simp only [World.size_alloc] at hMl
    have hMne : M ≠ w.heap.size := fun e => hi (congrArg Prod.fst (hBc.symm.trans (show K0 w.heap.size = (i, 1, 0) from e ▸ h.kM))).symm
    have q1 : wM.heap[w.heap.size + 1]? = some (.cells #[.int .i64 t.lsn, .slice none 0 0, .slice none 0 0] 86 (0, 0)) := (hgM.block (w.heap.size + 1) (by simp) (by simp; omega)).trans (by have := heap_alloc_new (w.alloc (.cells #[.int .i64 t.lsn, .int .i64 t.ch.kind, .string t.ch.table, .slice a1 n1 c1, .slice a2 n2 c2, .slice a3 n3 c3] 78 (0, 0))) (.cells #[.int .i64 t.lsn, .slice none 0 0, .slice none 0 0] 86 (0, 0)); simpa using this)
    have hTB : wM.heap[w.heap.size]? = some (.cells #[.int .i64 t.lsn, .int .i64 t.ch.kind, .string t.ch.table, .slice a1 n1 c1, .slice a2 n2 c2, .slice a3 n3 c3] 78 (0, 0)) := (hgM.block w.heap.size (by simp; omega) (by simp; omega)).trans ((Below.heap_alloc _ _ _ (by simp)).trans hTB)
    obtain ⟨K1, hK1, hK1F⟩ : ∃ K1 : Nat → Tag, Ext K0 K1 (w.alloc (.cells #[.int .i64 t.lsn, .int .i64 t.ch.kind, .string t.ch.table, .slice a1 n1 c1, .slice a2 n2 c2, .slice a3 n3 c3] 78 (0, 0))).heap.size ∧ K1 (w.heap.size + 1) = (i, 4, x) := ⟨fun b => if b < w.heap.size + 1 then K0 b else (i, 4, x), fun b hb => by simp at hb; simp [hb], by simp⟩
    have hBc : K1 w.heap.size = (0, 0, 0) := (hK1 _ (by simp)).trans hBc
    have hC : ∀ b, b < (w.alloc (.cells #[.int .i64 t.lsn, .int .i64 t.ch.kind, .string t.ch.table, .slice a1 n1 c1, .slice a2 n2 c2, .slice a3 n3 c3] 78 (0, 0))).heap.size → K0 b ≠ (i, 1, 0) → wM.heap[b]? = (w.alloc (.cells #[.int .i64 t.lsn, .int .i64 t.ch.kind, .string t.ch.table, .slice a1 n1 c1, .slice a2 n2 c2, .slice a3 n3 c3] 78 (0, 0))).heap[b]? := fun b hb hk => (hgM.block b (by simp at hb ⊢; omega) (fun e => hk (by simp at e; rw [e]; exact h.kM))).trans (Below.heap_alloc _ _ _ hb)
    have hle : (w.alloc (.cells #[.int .i64 t.lsn, .int .i64 t.ch.kind, .string t.ch.table, .slice a1 n1 c1, .slice a2 n2 c2, .slice a3 n3 c3] 78 (0, 0))).heap.size ≤ wM.heap.size := by simp; omega
    have h1 := h.ins (f := ⟨x, t.lsn, []⟩) hle hK1 hC hi ⟨.slice none 0 0, .slice none 0 0, [], [], q1, hK1F, Row.nil _ _ _ _ _, Row.nil _ _ _ _ _, Rel₂.nil, by simp, .inl rfl⟩ hmap
    have hT1 : TurnRow wM (Imm K1) [.int .i64 t.lsn, .int .i64 t.ch.kind, .string t.ch.table, .slice a1 n1 c1, .slice a2 n2 c2, .slice a3 n3 c3] t := framed_turn.go (C := fun c => c = (i, 1, 0)) (show TurnRow (w.alloc (.cells #[.int .i64 t.lsn, .int .i64 t.ch.kind, .string t.ch.table, .slice a1 n1 c1, .slice a2 n2 c2, .slice a3 n3 c3] 78 (0, 0))) (Imm K0) [.int .i64 t.lsn, .int .i64 t.ch.kind, .string t.ch.table, .slice a1 n1 c1, .slice a2 n2 c2, .slice a3 n3 c3] t from ⟨_, rfl, a1, n1, c1, a2, n2, c2, a3, n3, c3, rfl, hn, ho, hw⟩) hle hK1 hC (by simp)
    have hstep1 : Step Kc i w wM := by
      refine (hstep0.alloc (.cells #[.int .i64 t.lsn, .slice none 0 0, .slice none 0 0] 86 (0, 0))).grown hgM (fun b hb hl => ?_)
      simp at hb
      subst hb
      rw [← hK0 _ hl, h.kM]
    have hK01 : Ext Kc K1 w.heap.size := fun b hb => (hK1 b (by simp; omega)).trans (hK0 b hb)
    have hsn := addTurn_snoc (t := t) s.follows (x := x) (fun f hf e => hit (by rw [← h.fol] at hf; obtain ⟨g, hg, rfl⟩ := List.mem_map.1 hf; exact ⟨g, hg, e⟩))
    obtain ⟨sc2, sf2, sl2⟩ := bfacts (Below.blk ((Below.refl _ (w.alloc (.cells #[.int .i64 t.lsn, .int .i64 t.ch.kind, .string t.ch.table, .slice a1 n1 c1, .slice a2 n2 c2, .slice a3 n3 c3] 78 (0, 0)))).alloc (Nat.le_refl _) (.cells #[.int .i64 t.lsn, .slice none 0 0, .slice none 0 0] 86 (0, 0))) h.blk)
    have hm : ((⟨x, t.lsn, []⟩, w.heap.size + 1) : Follow × Nat) ∈ G ++ [(⟨x, t.lsn, []⟩, w.heap.size + 1)] := by simp
    have q2 := hK1F
    have q3 := Row.nil wM K1 78 6 (i, 5, x)
    have q4 := Row.nil wM K1 78 6 (i, 6, x)
    have q5 : Rel₂ (TurnRow wM (Imm K1)) [] dTurn ([] ++ []) [] := Rel₂.nil
    obtain ⟨fc, ff, fl⟩ := bfacts q1
    go_enter Try.func26, Try.ntmps26
    go_wp2_with fail
    have hFl := lt_of_block q1
    have hb2 : Below wM.heap.size wM ((wM.alloc (.cells #[.int .i64 t.lsn, .int .i64 t.ch.kind, .string t.ch.table, .slice a1 n1 c1, .slice a2 n2 c2, .slice a3 n3 c3] 78 (0, 0))).drew) := ((Below.refl _ wM).alloc (Nat.le_refl _) (.cells #[.int .i64 t.lsn, .int .i64 t.ch.kind, .string t.ch.table, .slice a1 n1 c1, .slice a2 n2 c2, .slice a3 n3 c3] 78 (0, 0))).drew
    refine wp_region_plan (fun W => W.heap[(w.heap.size + 1)]? = some (.cells #[.int .i64 t.lsn, .slice none 0 0, .slice none 0 0] 86 (0, 0)) ∧ W.heap[w.heap.size]? = some (.cells #[.int .i64 t.lsn, .int .i64 t.ch.kind, .string t.ch.table, .slice a1 n1 c1, .slice a2 n2 c2, .slice a3 n3 c3] 78 (0, 0))) [10] [(0, 0), (1, 0), (2, 0), (3, 0), (4, 1), (5, 1), (6, 2), (7, 2), (8, 0), (9, 0), (10, 2)] (by kernel_rfl) (by kernel_rfl) (fun _ _ d _ _ h => by first | exact absurd h.1 (fun h => by cases h) | (cases d <;> exact h)) ?_
    have hS : wM.drew.heap[(w.heap.size + 1)]? = some (.cells #[.int .i64 t.lsn, .slice none 0 0, .slice none 0 0] 86 (0, 0)) ∧ wM.drew.heap[w.heap.size]? = some (.cells #[.int .i64 t.lsn, .int .i64 t.ch.kind, .string t.ch.table, .slice a1 n1 c1, .slice a2 n2 c2, .slice a3 n3 c3] 78 (0, 0)) := ⟨q1, hTB⟩
    repeat (first | (refine plan_soft rfl rfl rfl ?_; intro K hK; go_big_quiet_op; go_big_quiet_on) | (refine plan_load hS rfl rfl rfl rfl (fun w' hw' => loadVar_one (by kernel_rfl) (((bfacts hw'.1).1 _).trans rfl)) ?_; (try simp only [Act.put, List.setIfInBounds_toArray, List.set_cons_zero, List.set_cons_succ])) | (refine plan_load hS rfl rfl rfl rfl (fun w' hw' => run_loadVar_row _ _ _ _ _ _ _ hw'.2 Try.underlying78 rfl (by kernel_rfl)) ?_; (try simp only [Act.put, List.setIfInBounds_toArray, List.set_cons_zero, List.set_cons_succ])))
    refine plan_do rfl rfl ?_; intro K hK
    go_wp2_with fail
    have hx1 := (slat_new (w := wM) (e := 78) (cs := #[.int .i64 t.lsn, .int .i64 t.ch.kind, .string t.ch.table, .slice a1 n1 c1, .slice a2 n2 c2, .slice a3 n3 c3]) (k := 6) (m := 1) [[.int .i64 t.lsn, .int .i64 t.ch.kind, .string t.ch.table, .slice a1 n1 c1, .slice a2 n2 c2, .slice a3 n3 c3]] rfl (by simp) rfl (by simp)).frame ((Same.refl _ _).drew)
    rw [hszM] at hx1
    have ho1 := owns_below q3.owns hb2
    have hS' : ((wM.alloc (.cells #[.int .i64 t.lsn, .int .i64 t.ch.kind, .string t.ch.table, .slice a1 n1 c1, .slice a2 n2 c2, .slice a3 n3 c3] 78 (0, 0))).drew).heap[(w.heap.size + 1)]? = some (.cells #[.int .i64 t.lsn, .slice none 0 0, .slice none 0 0] 86 (0, 0)) ∧ ((wM.alloc (.cells #[.int .i64 t.lsn, .int .i64 t.ch.kind, .string t.ch.table, .slice a1 n1 c1, .slice a2 n2 c2, .slice a3 n3 c3] 78 (0, 0))).drew).heap[w.heap.size]? = some (.cells #[.int .i64 t.lsn, .int .i64 t.ch.kind, .string t.ch.table, .slice a1 n1 c1, .slice a2 n2 c2, .slice a3 n3 c3] 78 (0, 0)) := ⟨Below.blk hb2 q1, Below.blk hb2 hTB⟩
    refine ⟨fun _ _ => hS', ?_⟩
    clear hS
    (try simp only [Act.put, List.setIfInBounds_toArray, List.set_cons_zero, List.set_cons_succ])
    refine plan_do rfl rfl ?_; intro K hK
    refine oper_app1 (n := 0) (rows := []) _ _ _ rfl elem_turns (.slice none 0 0) rfl ho1 (.slice (some ⟨w.heap.size + 1 + 1, 0, none⟩) 1 1) rfl [.int .i64 t.lsn, .int .i64 t.ch.kind, .string t.ch.table, .slice a1 n1 c1, .slice a2 n2 c2, .slice a3 n3 c3] hx1 (by simp [Value.oneCell']) (by decide) (by decide) ?_
    intro va vc w2 hown2 hg2 hl2
    have hFne : Value.ownBlock (.slice none 0 0) ≠ some (w.heap.size + 1) := fun e => by have := q3.col (w.heap.size + 1) e; rw [q2] at this; simp at this
    have hBne : Value.ownBlock (.slice none 0 0) ≠ some w.heap.size := fun e => hi (congrArg Prod.fst (hBc.symm.trans (q3.col _ e))).symm
    have hS2 : w2.heap[(w.heap.size + 1)]? = some (.cells #[.int .i64 t.lsn, .slice none 0 0, .slice none 0 0] 86 (0, 0)) ∧ w2.heap[w.heap.size]? = some (.cells #[.int .i64 t.lsn, .int .i64 t.ch.kind, .string t.ch.table, .slice a1 n1 c1, .slice a2 n2 c2, .slice a3 n3 c3] 78 (0, 0)) :=
      ⟨(hg2.block (w.heap.size + 1) (lt_of_block hS'.1) (fun e => hFne e.symm)).trans hS'.1, (hg2.block w.heap.size (lt_of_block hS'.2) (fun e => hBne e.symm)).trans hS'.2⟩
    refine hK _ _ ⟨fun _ _ => hS2, ?_⟩
    clear hK K
    obtain ⟨fc2, ff2, fl2⟩ := bfacts hS2.1
    (try simp only [Act.put, List.setIfInBounds_toArray, List.set_cons_zero, List.set_cons_succ])
    repeat (first | (refine plan_soft rfl rfl rfl ?_; intro K hK; go_big_quiet_op; go_big_quiet_on))
    (refine plan_do rfl rfl ?_; intro K hK; go_wp2_with fail; refine ⟨fun h => absurd h (by decide), ?_⟩)
    (try simp only [Act.put, List.setIfInBounds_toArray, List.set_cons_zero, List.set_cons_succ])
    show Exit.then _ _ _ _ _
    go_wp2
    obtain ⟨K', e1, e2, e3⟩ := h1.grow5 hi hm q1 q2 q3 q4 q5 (Nat.zero_le _) ⟨by decide, rfl⟩ hb2 hT1 rfl hown2 hg2 hl2
    first | refine bodyPost_ret (v := .tuple #[]) (by simp [results, Try.results26, go_sem]) rfl ?_ | refine bodyPost_end (v := .tuple #[]) (by simp [results, Try.results26, go_sem]) rfl ?_
    exact ⟨rfl, K', fun b hb => (e1 b (by omega)).trans (hK01 b hb), hstep1.trans hK01 e2, by rw [← hsn]; exact e3⟩
end Go.Proofs.Ytplafccjgbeojaa
