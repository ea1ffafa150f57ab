/- slot.Slot.Feed: commits: the lists of the xids drained -/
import Derived.Test.YtplafccjgbeojaaFeed2
import Derived.Test.YtplafccjgbeojaaPl3
open Go Go.RowKit
namespace Go.Proofs.Ytplafccjgbeojaa
open Pm

theorem turn_one {w : World} {P : Nat → Prop} {r : List Value} {t : Turn} (h : TurnRow w P r t) : r.length = 6 ∧ ∀ u ∈ r, u.oneCell' = true := by
  obtain ⟨rc, rfl, a, n, k, a', n', k', a'', n'', k'', rfl, _⟩ := h
  refine ⟨rfl, fun u hu => ?_⟩
  simp at hu
  rcases hu with rfl | rfl | rfl | rfl | rfl | rfl <;> rfl

theorem rel_turn_one {w : World} {P : Nat → Prop} {rows : List (List Value)} {ts : List Turn} (h : Rel₂ (TurnRow w P) [] dTurn rows ts) : ∀ r ∈ rows, r.length = 6 ∧ ∀ u ∈ r, u.oneCell' = true := by
  intro r hr
  obtain ⟨i, hi, rfl⟩ := mem_nth [] hr
  exact turn_one (h.2 i (by rw [← h.1]; exact hi))

theorem Rel₂.app {α β : Type} {R : α → β → Prop} {da : α} {db : β} {xs xs' : List α} {ys ys' : List β} (h : Rel₂ R da db xs ys) (k : Rel₂ R da db xs' ys') : Rel₂ R da db (xs ++ xs') (ys ++ ys') := by
  refine ⟨by simp [h.1, k.1], fun i hi => ?_⟩
  rcases Nat.lt_or_ge i ys.length with hl | hg
  · rw [nth_append_left hl, nth_append_left (by rw [h.1]; exact hl)]; exact h.2 i hl
  · rw [nth_append_right hg, nth_append_right (by rw [h.1]; exact hg), h.1]
    exact k.2 _ (by simp at hi; omega)

theorem Rel₂.split {α β : Type} {R : α → β → Prop} {da : α} {db : β} {xs xs' : List α} {ys : List β} (h : Rel₂ R da db (xs ++ xs') ys) : Rel₂ R da db xs (ys.take xs.length) ∧ Rel₂ R da db xs' (ys.drop xs.length) := by
  have hl : xs.length + xs'.length = ys.length := by have := h.1; simpa using this
  refine ⟨⟨by simp; omega, fun i hi => ?_⟩, ⟨by simp; omega, fun i hi => ?_⟩⟩
  · have hi' : i < xs.length := by simp at hi; omega
    have := h.2 i (by omega)
    rw [nth_append_left hi'] at this
    have e : nth (ys.take xs.length) db i = nth ys db i := by rw [nth_eq hi, nth_eq (by omega)]; simp
    rw [e]; exact this
  · have hi' : i < xs'.length := by simp at hi; omega
    have := h.2 (xs.length + i) (by omega)
    rw [nth_append_right (by omega), Nat.add_sub_cancel_left] at this
    have e : nth (ys.drop xs.length) db i = nth ys db (xs.length + i) := by rw [nth_eq hi, nth_eq (by omega)]; simp
    rw [e]; exact this

/-- what other hands do keeps it, part by part -/
theorem RepP.go {w w' : World} {K K' : Nat → Tag} {i S : Nat} {s : Slot} {C : Tag → Prop} {tv : Value} {M : Nat} {qv : Value} {tr qr : List (List Value)} {G : List (Follow × Nat)} (h : RepP w K i S s tv M qv tr qr G)
    (hs : w.heap.size ≤ w'.heap.size) (hK : Ext K K' w.heap.size) (hC : ∀ b, b < w.heap.size → ¬ C (K b) → w'.heap[b]? = w.heap[b]?) (hI : ¬ C (0, 0, 0)) (hi : ∀ r x, ¬ C (i, r, x)) : RepP w' K' i S s tv M qv tr qr G :=
  ⟨(hC S (lt_of_block h.blk) (by rw [h.kS]; exact hi _ _)).trans h.blk, (hK S (lt_of_block h.blk)).trans h.kS, (hK M h.map.lt).trans h.kM,
    h.trow.frame hK (fun b hl hb => hC b hl (by rw [hb]; exact hi _ _)), h.times.imp fun _ _ h => h.go hs hK hC hI, h.map.frame (hC M h.map.lt (by rw [h.kM]; exact hi _ _)), h.fol,
    fun g hg => (h.each g hg).go hs hK hC hI (hi _ _) (hi _ _) (hi _ _), h.qrow.frame hK (fun b hl hb => hC b hl (by rw [hb]; exact hi _ _)), h.queue.imp fun _ _ h => framed_done.go h hs hK hC hI⟩

/-- two appends onto a row of the call's own -/
theorem two_apps {wr W wA wB : World} {Kr : Nat → Tag} {e k : Nat} {c : Tag} {tv v1 v2 : Value} {rows r1 r2 : List (List Value)} (hrow : Row wr Kr e k c tv rows) (hW : Below wr.heap.size wr W)
    (hl1 : ∀ r ∈ r1, r.length = k) (hl2 : ∀ r ∈ r2, r.length = k)
    (hg1 : W.grownBy wA tv.ownBlock) (ho1 : v1.ownBlock = tv.ownBlock ∨ v1.ownBlock = some W.heap.size)
    (hown2 : wB.ownsRow 0 e k v2 (rows.length + r1.length + r2.length) ((rows ++ r1) ++ r2).flatten) (hg2 : wA.grownBy wB v1.ownBlock) (ho2 : v2.ownBlock = v1.ownBlock ∨ v2.ownBlock = some wA.heap.size) :
    ∃ KB, Ext Kr KB wr.heap.size ∧ Row wB KB e k c v2 (rows ++ r1 ++ r2) ∧ (∀ b, b < wr.heap.size → tv.ownBlock ≠ some b → wB.heap[b]? = wr.heap[b]?) ∧ wr.heap.size ≤ wB.heap.size ∧
      (∀ b, v2.ownBlock = some b → tv.ownBlock = some b ∨ wr.heap.size ≤ b) ∧ wB.os = wr.os ∧ wB.tape = wr.tape ∧ wB.output = wr.output := by
  have s1 := hW.size
  have s2 := hg1.size
  have s3 := hg2.size
  have hv2 : ∀ b, v2.ownBlock = some b → tv.ownBlock = some b ∨ wr.heap.size ≤ b := by
    intro b hb
    rcases ho2 with e2 | e2
    · rcases ho1 with e1 | e1
      · exact .inl (by rw [← e1, ← e2]; exact hb)
      · rw [e2, e1] at hb; simp at hb; exact .inr (by omega)
    · rw [e2] at hb; simp at hb; exact .inr (by omega)
  refine ⟨fun b => if b < wr.heap.size then Kr b else if v2.ownBlock = some b then c else (0, 0, 0), fun b hb => by simp [hb], ⟨?_, ?_, ?_⟩, ?_, by omega, hv2, hg2.os.trans (hg1.os.trans hW.os), hg2.tape.trans (hg1.tape.trans hW.tape), hg2.output.trans (hg1.output.trans hW.output)⟩
  · have e : (rows ++ r1 ++ r2).length = rows.length + r1.length + r2.length := by simp; omega
    rw [e]; exact hown2
  · intro r hr
    rcases List.mem_append.1 hr with hr | hr
    · rcases List.mem_append.1 hr with hr | hr
      · exact hrow.len r hr
      · exact hl1 r hr
    · exact hl2 r hr
  · intro b hb
    by_cases hbl : b < wr.heap.size
    · simp only [hbl, if_true]
      rcases hv2 b hb with h | h
      · exact hrow.col b h
      · omega
    · simp only [hbl, if_false, hb, if_true]
  · intro b hb hne
    have hv1 : some b ≠ v1.ownBlock := by
      intro e
      rcases ho1 with e1 | e1
      · exact hne (by rw [← e1, ← e])
      · rw [e1] at e; simp at e; omega
    exact (hg2.block b (by omega) hv1).trans ((hg1.block b (by omega) (fun e => hne e.symm)).trans (hW.block b hb))

/-- the first loop of a commit: what has been drained so far -/
structure L1 (K0 : Nat → Tag) (i : Nat) (W1 : World) (S : Nat) (s : Slot) (lsn : Int) (xl : List Int) (N : Nat) (xsa : Option Addr) (xsc : Nat) (q : Nat) (Kr : Nat → Tag) (ta : Option Addr) (tc : Nat) (rows : List (List Value)) (D : List Follow × List Turn) (wr : World) : Prop where
  d : D = (xl.take q).foldl drain1 (s.follows, [])
  q : q ≤ N
  ext : Ext K0 Kr W1.heap.size
  step : Step K0 i W1 wr
  rep : Rep wr Kr i S { s with last := lsn, follows := D.1 }
  xs : IntsAt wr (Imm Kr) (.slice xsa N xsc) xl
  row : Row wr Kr 78 6 (0, 1, 0) (.slice ta rows.length tc) rows
  rel : Rel₂ (TurnRow wr (Imm Kr)) [] dTurn rows D.2
  fresh : ∀ b, Value.ownBlock (.slice ta rows.length tc) = some b → W1.heap.size ≤ b

section
variable {K0 : Nat → Tag} {i : Nat} {W1 : World} {S : Nat} {s : Slot} {lsn : Int} {xl : List Int} {N : Nat} {xsa : Option Addr} {xsc : Nat} {q : Nat} {Kr : Nat → Tag} {ta : Option Addr} {tc : Nat} {rows : List (List Value)} {D : List Follow × List Turn} {wr : World}

theorem L1.miss (h : L1 K0 i W1 S s lsn xl N xsa xsc q Kr ta tc rows D wr) (hN : xl.length = N) (hq : q < N) (hm : ∀ f ∈ D.1, f.xid ≠ nth xl 0 q) : L1 K0 i W1 S s lsn xl N xsa xsc (q + 1) Kr ta tc rows D wr := by
  refine { h with d := ?_, q := hq }
  rw [take_succ_nth xl 0 (by omega), List.foldl_append, ← h.d]
  show D = drain1 D _
  unfold drain1
  rw [dropX_none hm, turnsOf_none hm, List.append_nil]

theorem L1.hit (h : L1 K0 i W1 S s lsn xl N xsa xsc q Kr ta tc rows D wr) (hi : i ≠ 0) (hN : xl.length = N) (hq : q < N) {tv : Value} {M : Nat} {qv : Value} {tr qr : List (List Value)} {G : List (Follow × Nat)}
    (hR : RepP wr Kr i S { s with last := lsn, follows := D.1 } tv M qv tr qr G) {f : Follow} {F : Nat} (hm : (f, F) ∈ G) (hx : f.xid = nth xl 0 q) {r1 r2 : List (List Value)} (q5 : Rel₂ (TurnRow wr (Imm Kr)) [] dTurn (r1 ++ r2) f.turns)
    {KB : Nat → Tag} {wB : World} {va : Option Addr} {vn vc : Nat} (e1 : Ext Kr KB wr.heap.size) (e2 : Row wB KB 78 6 (0, 1, 0) (.slice va vn vc) (rows ++ r1 ++ r2))
    (e3 : ∀ b, b < wr.heap.size → Value.ownBlock (.slice ta rows.length tc) ≠ some b → wB.heap[b]? = wr.heap[b]?) (e4 : wr.heap.size ≤ wB.heap.size)
    (e5 : ∀ b, Value.ownBlock (.slice va vn vc) = some b → Value.ownBlock (.slice ta rows.length tc) = some b ∨ wr.heap.size ≤ b) (e6 : wB.os = wr.os) (e7 : wB.tape = wr.tape) (e8 : wB.output = wr.output)
    {w' : World} (hmap : MapIs w' M ((G.map keyF).filter fun p => p.1 ≠ nth xl 0 q)) (hg : wB.grownBy w' (some M)) :
    vn = (rows ++ r1 ++ r2).length ∧ L1 K0 i W1 S s lsn xl N xsa xsc (q + 1) KB va vc (rows ++ r1 ++ r2) (drain1 D (nth xl 0 q)) w' := by
  have hvn : vn = (rows ++ r1 ++ r2).length := by
    obtain ⟨a, c, e, _⟩ := e2.open
    simp at e; simp; omega
  subst hvn
  refine ⟨rfl, ?_⟩
  have hst := h.step.size
  have hC1 : ∀ b, b < wr.heap.size → ¬ (Kr b = (0, 1, 0)) → wB.heap[b]? = wr.heap[b]? := fun b hb hn => e3 b hb (fun e => hn (h.row.col b e))
  have hI1 : ¬ ((fun c : Tag => c = (0, 1, 0)) (0, 0, 0)) := by simp
  have hi1 : ∀ r x, ¬ ((fun c : Tag => c = (0, 1, 0)) (i, r, x)) := fun r x e => hi (congrArg Prod.fst e)
  have hMl := hR.map.lt
  have hMB : KB M = (i, 1, 0) := (e1 M hMl).trans hR.kM
  -- the slot behind the appends
  have hRB : RepP wB KB i S { s with last := lsn, follows := D.1 } tv M qv tr qr G :=
    ⟨(hC1 S (lt_of_block hR.blk) (by rw [hR.kS]; exact hi1 _ _)).trans hR.blk, (e1 S (lt_of_block hR.blk)).trans hR.kS, hMB, hR.trow.frame e1 (fun b hl hb => hC1 b hl (by rw [hb]; exact hi1 _ _)),
      hR.times.imp fun _ _ h => h.go (C := fun c => c = (0, 1, 0)) e4 e1 hC1 hI1, hR.map.frame (hC1 M hMl (by rw [hR.kM]; exact hi1 _ _)), hR.fol, fun g hg => (hR.each g hg).go (C := fun c => c = (0, 1, 0)) e4 e1 hC1 hI1 (hi1 _ _) (hi1 _ _) (hi1 _ _),
      hR.qrow.frame e1 (fun b hl hb => hC1 b hl (by rw [hb]; exact hi1 _ _)), hR.queue.imp fun _ _ h => framed_done.go (C := fun c => c = (0, 1, 0)) h e4 e1 hC1 hI1⟩
  have hC2 : ∀ b, b < wB.heap.size → KB b ≠ (i, 1, 0) → w'.heap[b]? = wB.heap[b]? := fun b hb hn => hg.block b hb (fun e => hn (by simp at e; rw [e]; exact hMB))
  have hI2 : ¬ ((fun c : Tag => c = (i, 1, 0)) (0, 0, 0)) := by simp
  have hRD := hRB.del (nth xl 0 q) hg.size (fun _ _ => rfl) hC2 hmap
  have hturns : turnsOf D.1 (nth xl 0 q) = f.turns := by
    have hk : (D.1.map (·.xid)).Nodup := by
      have := hR.map.nodup
      rw [List.map_map] at this
      have e : D.1 = G.map (·.1) := hR.fol.symm
      rw [e, List.map_map]; exact this
    have hf : f ∈ D.1 := by
      have e : D.1 = G.map (·.1) := hR.fol.symm
      rw [e]; exact List.mem_map.2 ⟨_, hm, rfl⟩
    rw [← hx]; exact turnsOf_mem D.1 hk hf
  have hTB : ∀ {r : List Value} {y : Turn}, TurnRow wr (Imm Kr) r y → TurnRow w' (Imm KB) r y := fun hr =>
    framed_turn.go (C := fun c => c = (i, 1, 0)) (framed_turn.go (C := fun c => c = (0, 1, 0)) hr e4 e1 hC1 hI1) hg.size (fun _ _ => rfl) hC2 hI2
  refine ⟨?_, hq, fun b hb => (e1 b (by omega)).trans (h.ext b hb), ?_, ⟨_, _, _, _, _, _, hRD⟩, ?_, e2.frame (fun _ _ => rfl) (fun b hb hk => hC2 b hb (by rw [hk]; exact fun e => hi (congrArg Prod.fst e).symm)), ?_, ?_⟩
  · rw [take_succ_nth xl 0 (by omega), List.foldl_append, ← h.d]; rfl
  · refine ⟨hg.os.trans (e6.trans h.step.os), hg.tape.trans (e7.trans h.step.tape), hg.output.trans (e8.trans h.step.output), by have := hg.size; omega, fun b hb hn => ?_⟩
    refine (hC2 b (by omega) (fun e => hn ?_)).trans ((e3 b (by omega) (fun e => by have := h.fresh b e; omega)).trans (h.step.block b hb hn))
    have := (e1 b (by omega)).symm.trans e
    rw [h.ext b hb] at this
    rw [this]
  · have hx1 := (h.xs.mono (Q := fun b => Imm Kr b ∧ Imm KB b) (fun b hb hl => ⟨hb, imm_ext e1 b hb hl⟩)).frame ((same_imm (C := fun c => c = (0, 1, 0)) e4 hC1 hI1).mono fun b hb => hb.1) |>.mono fun b hb _ => hb.2
    exact hx1.frame (same_imm (C := fun c => c = (i, 1, 0)) hg.size hC2 hI2)
  · show Rel₂ _ [] dTurn (rows ++ r1 ++ r2) (D.2 ++ turnsOf D.1 (nth xl 0 q))
    rw [hturns, List.append_assoc]
    exact (h.rel.imp fun _ _ h => hTB h).app (q5.imp fun _ _ h => hTB h)
  · intro b hb
    rcases e5 b hb with e | e
    · exact h.fresh b e
    · omega
end

/-- the queue has grown by one transaction: in the memory that 'append' and a store leave -/
theorem RepP.enq {w w1 w2 : World} {K : Nat → Tag} {i S : Nat} {s : Slot} {tv : Value} {M : Nat} {qv : Value} {tr qr : List (List Value)} {G : List (Follow × Nat)} (h : RepP w K i S s tv M qv tr qr G) (hi : i ≠ 0)
    (hb : Below w.heap.size w w1) {rt : List Value} {d : Done} (ht : DoneRow w (Imm K) rt d) (hrt : rt.length = 3) {v2 : Value} (hown : w2.ownsRow 0 72 3 v2 (qr.length + 1) (qr ++ [rt]).flatten)
    (hg : w1.grownBy w2 qv.ownBlock) (hl : v2.ownBlock = qv.ownBlock ∨ v2.ownBlock = some w1.heap.size) :
    ∃ K', Ext K K' w.heap.size ∧ Step K i w (w2.setCell ⟨S, 5, none⟩ v2) ∧ Rep (w2.setCell ⟨S, 5, none⟩ v2) K' i S { s with queue := s.queue ++ [d] } := by
  have hSl := lt_of_block h.blk
  have hqS : qv.ownBlock ≠ some S := fun e => by have := h.qrow.col S e; rw [h.kS] at this; simp at this
  have hv2S : v2.ownBlock ≠ some S := by
    rcases hl with e | e
    · rw [e]; exact hqS
    · rw [e]; have := hb.size; simp; omega
  have hs1 := hb.size
  have hs2 := hg.size
  have hold : ∀ b, b < w.heap.size → ¬ (K b = (i, 0, 0) ∨ K b = (i, 3, 0)) → (w2.setCell ⟨S, 5, none⟩ v2).heap[b]? = w.heap[b]? := fun b hl hn =>
    (Below.heap_setCell w2 ⟨S, 5, none⟩ v2 b (fun e => hn (.inl (by rw [show b = S from e]; exact h.kS)))).trans ((hg.block b (by omega) (fun e => hn (.inr (h.qrow.col b e.symm)))).trans (hb.block b hl))
  have hstep : Step K i w (w2.setCell ⟨S, 5, none⟩ v2) :=
    ((Step.of_below hb).grown hg (fun b hb' _ => by rw [h.qrow.col b hb'])).set (fun _ => by rw [h.kS]) v2
  have hKx : Ext K (fun b => if b < w.heap.size then K b else if v2.ownBlock = some b then (i, 3, 0) else (0, 0, 0)) w.heap.size := fun b hb => by simp [hb]
  have hI : ¬ ((fun c : Tag => c = (i, 0, 0) ∨ c = (i, 3, 0)) (0, 0, 0)) := by simp; exact fun e => hi e.symm
  have hS2 : w2.heap[S]? = some (.cells #[.string s.name, .int .i64 s.acked, .int .i64 s.last, tv, .map (some M), qv] 70 (0, 0)) := (hg.block S (by omega) (fun e => hqS e.symm)).trans ((hb.block S hSl).trans h.blk)
  have hQ : ∀ {r : List Value} {y : Done}, DoneRow w (Imm K) r y → DoneRow (w2.setCell ⟨S, 5, none⟩ v2) (Imm fun b => if b < w.heap.size then K b else if v2.ownBlock = some b then (i, 3, 0) else (0, 0, 0)) r y := fun hr =>
    framed_done.go (C := fun c => c = (i, 0, 0) ∨ c = (i, 3, 0)) hr hstep.size hKx hold hI
  refine ⟨_, hKx, hstep, tv, M, v2, tr, qr ++ [rt], G, (blk_set hS2 5 v2).trans rfl, (hKx S hSl).trans h.kS, (hKx M h.map.lt).trans h.kM,
    h.trow.frame hKx (fun b hl hb => hold b hl (by simp [hb])), h.times.imp fun _ _ h => h.go (C := fun c => c = (i, 0, 0) ∨ c = (i, 3, 0)) hstep.size hKx hold hI,
    h.map.frame (hold M h.map.lt (by simp [h.kM])), h.fol, fun g hg => (h.each g hg).go (C := fun c => c = (i, 0, 0) ∨ c = (i, 3, 0)) hstep.size hKx hold hI (by simp) (by simp) (by simp), ⟨?_, ?_, ?_⟩, ?_⟩
  · rw [List.length_append]; exact hown.kept (grown_set w2 ⟨S, 5, none⟩ v2) (.inr hv2S)
  · intro r hr
    rcases List.mem_append.1 hr with hr | hr
    · exact h.qrow.len r hr
    · simp at hr; subst hr; exact hrt
  · intro b hb'
    by_cases hbl : b < w.heap.size
    · simp only [hbl, if_true]
      rcases hl with e | e
      · exact h.qrow.col b (e ▸ hb')
      · rw [e] at hb'; simp at hb'; omega
    · simp only [hbl, if_false, hb', if_true]
  · exact (h.queue.imp fun _ _ h => hQ h).snoc (hQ ht)
end Go.Proofs.Ytplafccjgbeojaa
