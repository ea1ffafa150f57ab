/- What the laws of layer 16 share. -/
import Derived.Test.YtplafccjgbeojaaSme
import Derived.Test.YtplafccjgbeojaaPl4
import Derived.Test.YtplafccjgbeojaaArg
open Go Go.RowKit
namespace Go.Proofs.Ytplafccjgbeojaa
open Pm

theorem tmod_bd (x n : Int) (hn : 0 < n) : -n < x.tmod n ∧ x.tmod n < n := ⟨Int.lt_tmod_of_pos x hn, Int.tmod_lt_of_pos x hn⟩

theorem rest_arith (x n : Int) (hn : 0 < n) : (x.tmod n + n) % n = x % n := by
  rw [Int.add_emod_right]
  have h3 : x = x.tmod n + n * x.tdiv n := (Int.tmod_add_mul_tdiv x n).symm
  conv => rhs; rw [h3, Int.add_mul_emod_self_left]

set_option maxHeartbeats 400000 in
theorem rest_calls (x n : Int) (w : World) (hn : 0 < n ∧ n ≤ 100000) : Calls Try.prog 10 #[.int .i64 x, .int .i64 n] w fun e w' => e = .returned (.int .i64 (x % n)) ∧ w' = w := by
  have h0 : ¬ n = 0 := by omega
  obtain ⟨h1, h2⟩ := tmod_bd x n hn.1
  have H := Lib.hid (rest_arith x n hn.1)
  go_enter Try.func10, Try.ntmps10
  go_wp2
  go_ret
  refine ⟨?_, rfl⟩
  show Ending.returned (.int .i64 ((x.tmod n + n) % n)) = _
  rw [H.out]

theorem Fits.le' {s : Slot} {n : Nat} (h : Fits s n) : ∀ k, n + k ≤ 999999 → Fits s (n + k)
  | 0, _ => h
  | k + 1, hk => (h.le' k (by omega)).up (by omega)
theorem Fits.mono {s : Slot} {n m : Nat} (h : Fits s n) (hm : n ≤ m) (hb : m ≤ 999999) : Fits s m := by
  have := h.le' (m - n) (by omega)
  rwa [show n + (m - n) = m by omega] at this

/-- a record with one new row of one value, just made -/
theorem rec_one (w : World) (k x t a b : Int) (P : Nat → Prop) (hP : P w.heap.size) :
    RecAt (w.alloc (.cells #[.int .i64 a, .int .i64 b, .string ⟨#[]⟩] 30)) P [.int .i64 k, .int .i64 x, .int .i64 t, .slice none 0 0, .slice (some ⟨w.heap.size, 0, none⟩) 1 1, .slice none 0 0, .slice none 0 0, .string ⟨#[]⟩] ⟨k, x, t, [], [⟨a, b, ⟨#[]⟩⟩], [], ⟨#[]⟩⟩ := by
  refine ⟨none, 0, 0, some ⟨w.heap.size, 0, none⟩, 1, 1, .slice none 0 0, none, 0, 0, rfl, SlAt.nil _ _ _, ?_, SlAt.nil _ _ _⟩
  refine .inr ⟨_, 0, 1, rfl, ⟨hP, by simp⟩, Nat.le_refl _, by decide, fun i hi => ?_⟩
  have : i = 0 := by simpa using hi
  subst this
  refine ⟨rfl, fun j hj => ?_⟩
  rw [World.cell?_alloc_new]
  match j, hj with
  | 0, _ => rfl
  | 1, _ => rfl
  | 2, _ => rfl

theorem plain_one {k x t a b : Int} {y : ByteArray} (h : k ≠ 10) : Plain ⟨k, x, t, [], [⟨a, b, y⟩], [], y⟩ := ⟨h, by simp, by simp, by simp⟩

theorem okTxns_queued {s : Slot} {n : Nat} (h : Fits s n) (m : Int) : OkTxns (queued s m) := by
  intro t ht
  unfold queued at ht
  obtain ⟨d, hd, rfl⟩ := List.mem_map.1 ht
  have := h.okq d (List.mem_of_mem_take hd)
  have := h.le
  exact ⟨by omega, fun c hc => (h.okq d (List.mem_of_mem_take hd)).2 c hc⟩

theorem plan_dog {P : Program} {Q : Exit → Act → World → Prop} {S : World → Prop} {l : List Oper} {i : Nat} {r : List (Nat × Nat)} {lt : List Nat} {E : Act → World → Prop} {o : Oper} {a : Act} {w : World} (ho' : l[i]? = some o) (hw : Region.wanted o (yielded l.toArray a.tmps) = true)
    (h : ∀ K : Act → World → Prop, (∀ a' w', (lt.contains i = false → S w → S w') ∧ planWp P l.toArray Q S lt E r a' w' → K a' w') → o.wp P a w K Q) : planWp P l.toArray Q S lt E ((i, 2) :: r) a w := by
  show wpOp P l.toArray Q i _ a w
  unfold wpOp
  have ho : l.toArray[i]? = some o := by simpa using ho'
  simp only [ho]
  rw [if_pos hw]
  exact .inl (h _ fun _ _ h => h)

theorem queued_all {s : Slot} {n : Nat} (h : s.queue.length ≤ n) : queued s n = s.queue.map (·.told) := by
  unfold queued
  rw [Int.toNat_natCast, List.take_of_length_le h]


/-- an array of three integers, the law's own -/
structure ArrK (w : World) (K : Nat → Tag) (b : Nat) (f : Nat → Int) : Prop where
  blk : w.heap[b]? = some (.cells #[.int .i64 (f 0), .int .i64 (f 1), .int .i64 (f 2)] 39 (0, 0))
  tag : K b = (3, 0, 0)

section
variable {w w' : World} {K K' : Nat → Tag} {b b' i : Nat} {f : Nat → Int}
theorem ArrK.lt (h : ArrK w K b f) : b < w.heap.size := lt_of_block h.blk
theorem ArrK.step (h : ArrK w K b f) (hs : Step K i w w') (hK : Ext K K' w.heap.size) (hi : i ≠ 3) : ArrK w' K' b f :=
  ⟨(hs.block b h.lt (by rw [h.tag]; exact fun e => hi e.symm)).trans h.blk, (hK b h.lt).trans h.tag⟩
theorem ArrK.then (h : ArrK w K b f) (hs : Below w.heap.size w w') (hK : Ext K K' w.heap.size) : ArrK w' K' b f := h.step (i := 0) (Step.of_below hs) hK (by decide)
theorem ArrK.other (h : ArrK w K b f) (hb : b ≠ b') (o : Nat) (v : Value) : ArrK (w.setCell ⟨b', o, none⟩ v) K b f :=
  ⟨(Below.heap_setCell w ⟨b', o, none⟩ v b hb).trans h.blk, h.tag⟩
theorem ArrK.cell (h : ArrK w K b f) {x : Nat} (hx : x < 3) : w.cell? ⟨b, x, none⟩ = some (.int .i64 (f x)) := by
  rw [(bfacts h.blk).1]
  match x, hx with
  | 0, _ => rfl
  | 1, _ => rfl
  | 2, _ => rfl
theorem ArrK.frozen (h : ArrK w K b f) (x : Nat) : w.frozen? ⟨b, x, none⟩ = false := (bfacts h.blk).2.1 x
theorem ArrK.set (h : ArrK w K b f) {x : Nat} (hx : x < 3) (v : Int) : ArrK (w.setCell ⟨b, x, none⟩ (.int .i64 v)) K b (fun i => if i = x then v else f i) := by
  refine ⟨?_, h.tag⟩
  rw [blk_set h.blk]
  match x, hx with
  | 0, _ => rfl
  | 1, _ => rfl
  | 2, _ => rfl
theorem ArrK.wrote (h : ArrK w K b f) (x : Nat) (v : Value) : Step K 3 w (w.setCell ⟨b, x, none⟩ v) := (Step.refl K 3 w).set (fun _ => by show (K b).1 = 3; rw [h.tag]) v
end

theorem open_zero {w : World} {K : Nat → Tag} {i S : Nat} {s : Slot} (h : Rep w K i S s) (hf : s.follows = []) : Calls Try.prog 14 #[.pointer (some ⟨S, 0, none⟩)] w fun e w' => e = .returned (.int .i64 0) ∧ w' = w := by
  have := open_calls h
  rw [hf] at this
  exact this

def upd (c : Nat → Nat) (x v : Nat) : Nat → Nat := fun i => if i = x then v else c i
theorem upd_self (c : Nat → Nat) (x v : Nat) : upd c x v x = v := by simp [upd]
theorem upd_ne (c : Nat → Nat) {x i : Nat} (v : Nat) (h : i ≠ x) : upd c x v i = c i := by simp [upd, h]
theorem upd_upd (c : Nat → Nat) (x u v : Nat) : upd (upd c x u) x v = upd c x v := by
  funext i; unfold upd; by_cases h : i = x <;> simp [h]
theorem upd_id (c : Nat → Nat) (x : Nat) : upd c x (c x) = c := by
  funext i; unfold upd; by_cases h : i = x <;> simp [h]
def tot (c : Nat → Nat) : Nat := c 0 + c 1 + c 2
theorem tot_upd (c : Nat → Nat) {x : Nat} (hx : x < 3) (v : Nat) : tot (upd c x v) + c x = tot c + v := by
  unfold tot upd
  match x, hx with
  | 0, _ => simp; omega
  | 1, _ => simp; omega
  | 2, _ => simp; omega
theorem ArrK.setN {w : World} {K : Nat → Tag} {b : Nat} {c : Nat → Nat} (h : ArrK w K b fun i => (c i : Nat)) {x : Nat} (hx : x < 3) (v : Nat) : ArrK (w.setCell ⟨b, x, none⟩ (.int .i64 (v : Nat))) K b fun i => (upd c x v i : Nat) := by
  have := h.set hx (v : Nat)
  refine cast ?_ this
  congr 1
  funext i
  unfold upd
  by_cases h : i = x <;> simp [h]
end Go.Proofs.Ytplafccjgbeojaa
