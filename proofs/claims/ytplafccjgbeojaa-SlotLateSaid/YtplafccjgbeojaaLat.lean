/- vintnerlaw16.rest, SlotLate -/
import Derived.Test.YtplafccjgbeojaaSme
import Derived.Test.YtplafccjgbeojaaPl4
import Derived.Test.YtplafccjgbeojaaArg
open Go Go.RowKit
namespace Go.Proofs.Ytplafccjgbeojaa
open Pm

theorem tmod_bd (x n : Int) (hn : 0 < n) : -n < x.tmod n ∧ x.tmod n < n := ⟨Int.lt_tmod_of_pos x hn, Int.tmod_lt_of_pos x hn⟩

theorem rest_arith (x n : Int) (hn : 0 < n) : (x.tmod n + n) % n = x % n := by
  rw [Int.add_emod_right]
  have h3 : x = x.tmod n + n * x.tdiv n := (Int.tmod_add_mul_tdiv x n).symm
  conv => rhs; rw [h3, Int.add_mul_emod_self_left]

set_option maxHeartbeats 400000 in
theorem rest_calls (x n : Int) (w : World) (hn : 0 < n ∧ n ≤ 100000) : Calls Try.prog 10 #[.int .i64 x, .int .i64 n] w fun e w' => e = .returned (.int .i64 (x % n)) ∧ w' = w := by
  have h0 : ¬ n = 0 := by omega
  obtain ⟨h1, h2⟩ := tmod_bd x n hn.1
  have H := Lib.hid (rest_arith x n hn.1)
  go_enter Try.func10, Try.ntmps10
  go_wp2
  go_ret
  refine ⟨?_, rfl⟩
  show Ending.returned (.int .i64 ((x.tmod n + n) % n)) = _
  rw [H.out]

theorem Fits.le' {s : Slot} {n : Nat} (h : Fits s n) : ∀ k, n + k ≤ 999999 → Fits s (n + k)
  | 0, _ => h
  | k + 1, hk => (h.le' k (by omega)).up (by omega)
theorem Fits.mono {s : Slot} {n m : Nat} (h : Fits s n) (hm : n ≤ m) (hb : m ≤ 999999) : Fits s m := by
  have := h.le' (m - n) (by omega)
  rwa [show n + (m - n) = m by omega] at this

/-- a record with one new row of one value, just made -/
theorem rec_one (w : World) (k x t a b : Int) (P : Nat → Prop) (hP : P w.heap.size) :
    RecAt (w.alloc (.cells #[.int .i64 a, .int .i64 b, .string ⟨#[]⟩] 30)) P [.int .i64 k, .int .i64 x, .int .i64 t, .slice none 0 0, .slice (some ⟨w.heap.size, 0, none⟩) 1 1, .slice none 0 0, .slice none 0 0, .string ⟨#[]⟩] ⟨k, x, t, [], [⟨a, b, ⟨#[]⟩⟩], [], ⟨#[]⟩⟩ := by
  refine ⟨none, 0, 0, some ⟨w.heap.size, 0, none⟩, 1, 1, .slice none 0 0, none, 0, 0, rfl, SlAt.nil _ _ _, ?_, SlAt.nil _ _ _⟩
  refine .inr ⟨_, 0, 1, rfl, ⟨hP, by simp⟩, Nat.le_refl _, by decide, fun i hi => ?_⟩
  have : i = 0 := by simpa using hi
  subst this
  refine ⟨rfl, fun j hj => ?_⟩
  rw [World.cell?_alloc_new]
  match j, hj with
  | 0, _ => rfl
  | 1, _ => rfl
  | 2, _ => rfl

theorem plain_one {k x t a b : Int} {y : ByteArray} (h : k ≠ 10) : Plain ⟨k, x, t, [], [⟨a, b, y⟩], [], y⟩ := ⟨h, by simp, by simp, by simp⟩

theorem okTxns_queued {s : Slot} {n : Nat} (h : Fits s n) (m : Int) : OkTxns (queued s m) := by
  intro t ht
  unfold queued at ht
  obtain ⟨d, hd, rfl⟩ := List.mem_map.1 ht
  have := h.okq d (List.mem_of_mem_take hd)
  have := h.le
  exact ⟨by omega, fun c hc => (h.okq d (List.mem_of_mem_take hd)).2 c hc⟩

theorem plan_dog {P : Program} {Q : Exit → Act → World → Prop} {S : World → Prop} {l : List Oper} {i : Nat} {r : List (Nat × Nat)} {lt : List Nat} {E : Act → World → Prop} {o : Oper} {a : Act} {w : World} (ho' : l[i]? = some o) (hw : Region.wanted o (yielded l.toArray a.tmps) = true)
    (h : ∀ K : Act → World → Prop, (∀ a' w', (lt.contains i = false → S w → S w') ∧ planWp P l.toArray Q S lt E r a' w' → K a' w') → o.wp P a w K Q) : planWp P l.toArray Q S lt E ((i, 2) :: r) a w := by
  show wpOp P l.toArray Q i _ a w
  unfold wpOp
  have ho : l.toArray[i]? = some o := by simpa using ho'
  simp only [ho]
  rw [if_pos hw]
  exact .inl (h _ fun _ _ h => h)

theorem SlAt.drop {w : World} {P : Nat → Prop} {k : Nat} {a : Option Addr} {n c : Nat} {rows : List (List Value)} (h : SlAt w P k (.slice a n c) rows) (j : Nat) (hj : j ≤ n) :
    SlAt w P k (.slice (if c = j then a else a.map (·.add (j * k))) (n - j) (c - j)) (rows.drop j) := by
  rcases h with ⟨he, rfl⟩ | ⟨b, off, cap, he, hP, h1, h2, h3⟩
  · simp only [Value.slice.injEq] at he
    obtain ⟨rfl, rfl, rfl⟩ := he
    have : j = 0 := by omega
    subst this
    simp only [if_true, List.drop_nil]
    exact SlAt.nil _ _ _
  · simp only [Value.slice.injEq] at he
    obtain ⟨rfl, rfl, rfl⟩ := he
    have hl : (rows.drop j).length = rows.length - j := by simp
    by_cases hc : c = j
    · rw [if_pos hc]
      have hr : rows.length = j := by omega
      have e : rows.drop j = [] := List.eq_nil_of_length_eq_zero (by rw [hl]; omega)
      rw [e]
      exact .inr ⟨b, off, c - j, by simp [hr], hP, by simp, by omega, fun i hi => by simp at hi⟩
    · rw [if_neg hc]
      refine .inr ⟨b, off + j * k, c - j, by rw [hl]; simp [Addr.add_lit], hP, by rw [hl]; omega, by omega, fun i hi => ?_⟩
      rw [hl] at hi
      have e : nth (rows.drop j) [] i = nth rows [] (j + i) := by rw [nth_eq (by rw [hl]; exact hi), nth_eq (by omega)]; simp
      rw [e]
      refine ⟨(h3 (j + i) (by omega)).1, fun m hm => ?_⟩
      have := (h3 (j + i) (by omega)).2 m hm
      rw [← this]
      congr 2
      rw [Nat.add_mul]; omega

theorem Rel₂.drop {α β : Type} {R : α → β → Prop} {da : α} {db : β} {xs : List α} {ys : List β} (h : Rel₂ R da db xs ys) (j : Nat) : Rel₂ R da db (xs.drop j) (ys.drop j) := by
  refine ⟨by simp [h.1], fun i hi => ?_⟩
  have hi' : j + i < ys.length := by simp at hi; omega
  have e1 : nth (ys.drop j) db i = nth ys db (j + i) := by rw [nth_eq hi, nth_eq hi']; simp
  have e2 : nth (xs.drop j) da i = nth xs da (j + i) := by rw [nth_eq (by simp [h.1]; omega), nth_eq (by rw [h.1]; exact hi')]; simp
  rw [e1, e2]
  exact h.2 _ hi'

theorem TxnsAt.drop {w : World} {P : Nat → Prop} {a : Option Addr} {n c : Nat} {l : List Txn} (h : TxnsAt w P (.slice a n c) l) (j : Nat) (hj : j ≤ n) : TxnsAt w P (.slice (if c = j then a else a.map (·.add (j * 2))) (n - j) (c - j)) (l.drop j) := by
  obtain ⟨rows, h1, h2⟩ := h
  exact ⟨rows.drop j, h1.drop j hj, h2.drop j⟩

theorem TxnsAt.base {w : World} {P : Nat → Prop} {a : Option Addr} {n c : Nat} {l : List Txn} (h : TxnsAt w P (.slice a n c) l) : (n = 0 ∧ c = 0) ∨ ∃ b o, a = some ⟨b, o, none⟩ := by
  obtain ⟨rows, h1, -⟩ := h
  rcases h1 with ⟨he, -⟩ | ⟨b, off, cap, he, -⟩
  · simp only [Value.slice.injEq] at he
    exact .inl ⟨he.2.1, he.2.2⟩
  · simp only [Value.slice.injEq] at he
    exact .inr ⟨b, off, he.1⟩

theorem queued_all {s : Slot} {n : Nat} (h : s.queue.length ≤ n) : queued s n = s.queue.map (·.told) := by
  unfold queued
  rw [Int.toNat_natCast, List.take_of_length_le h]

/-- a slot that is fed LSN by LSN -/
structure Late (w0 wr : World) (K : Nat → Tag) (Sa : Nat) (sa : Slot) (lsn : Nat) : Prop where
  held : Held w0 wr K
  live : Live wr K 1 Sa sa lsn
  last : sa.last = lsn
  acked : sa.acked ≤ sa.last
  q : sa.queue.length ≤ lsn
  now : sa.now = []

theorem Late.feed {w0 wr w' : World} {K K' : Nat → Tag} {Sa : Nat} {sa : Slot} {lsn : Nat} (h : Late w0 wr K Sa sa lsn) {r : Rec} (h10 : r.kind ≠ 10) (hh : Held w0 w' K') (hl : Live w' K' 1 Sa (feed noCat sa ((lsn : Int) + 1) r) (lsn + 1)) :
    Late w0 w' K' Sa (feed noCat sa ((lsn : Int) + 1) r) (lsn + 1) := by
  have hlt : sa.last < (lsn : Int) + 1 := by have := h.last; omega
  refine ⟨hh, hl, by rw [feed_last hlt]; omega, acked_feed h.acked hlt, ?_, (now_feed' h10).trans h.now⟩
  have := queue_len (rd := noCat) (r := r) hlt
  have := h.q
  omega

def LateB (wr : World) (K : Nat → Tag) (lsn : Nat) (sa : Slot) (bv : Value) (ahead : Nat) : Prop :=
  bv = .pointer none ∨ ∃ Sb sb pre, bv = .pointer (some ⟨Sb, 0, none⟩) ∧ Live wr K 2 Sb sb lsn ∧ Pm.Twin sa sb pre ∧ ahead = pre.length

set_option maxRecDepth 100000 in
set_option maxHeartbeats 3200000 in
theorem slotLate_calls (va : Option Addr) (vc : Nat) (l : List Int) (kk : Int) (w : World) (hvc : l.length ≤ vc) (hvd : vc ≤ 9223372036854775807) (hcell : Shows w va l.length fun i => .int .i64 (nth l 0 i)) :
    Calls Try.prog 3 #[.slice va l.length vc, .int .i64 kk] w fun e w' => e = .returned (.bool true) ∧ Below w.heap.size w w' := by
  have HC := Lib.hid hcell
  clear hcell
  go_enter Try.func3, Try.ntmps3
  go_wp2_with fail
  refine (sanity_calls _).mono ?_
  rintro e w1 ⟨rfl, hb1⟩
  go_wp2_with fail
  refine (new_go ((Held.start w).then hb1 (K' := fun _ => (0, 0, 0)) (fun _ _ => rfl)) 1 (by decide) _ _).mono ?_
  rintro e w2 ⟨Sa, K2, rfl, hh, hl, hk2, hb2⟩
  clear hb1 hb2 hk2
  go_wp2_with fail
  refine (rest_calls kk 31 _ (by decide)).mono ?_
  rintro e w3 ⟨rfl, rfl⟩
  go_wp2_with fail
  have hL0 : Late w w3 K2 Sa (newSlot ⟨#[97]⟩ (max 0 0) (max 0 0) []) 0 := ⟨hh, hl, rfl, Int.le_refl _, Nat.le_refl _, rfl⟩
  go_loopw [7, 9, 10, 11] (fun lv bv av iv wr => ∃ (i lsn ahead : Nat) (K : Nat → Tag) (sa : Slot), lv = .int .i64 lsn ∧ av = .int .i64 ahead ∧ iv = .int .i64 i ∧ i ≤ 30 ∧ i ≤ l.length ∧ lsn ≤ 6 * i ∧ Late w wr K Sa sa lsn ∧ Go.RowKit.Hid (sa.follows = []) ∧ LateB wr K lsn sa bv ahead) (fun _ _ _ iv _ => 30 - (intOf iv).toNat)
  case atStart => exact ⟨0, 0, 0, K2, _, rfl, rfl, rfl, by omega, by omega, by omega, hL0, Lib.hid rfl, .inl rfl⟩
  case round =>
    obtain ⟨i, lsn, ahead, K, sa, rfl, rfl, rfl, hi30, hil, hlsn, hL, hfol, hB⟩ := hrel
    by_cases hlt : i < l.length ∧ i < 30
    · obtain ⟨hlt1, hlt2⟩ := hlt
      obtain ⟨b, off, rfl, hbl, hc⟩ := HC.out i hlt1
      obtain ⟨n, hn, hn5⟩ : ∃ n : Nat, nth l 0 i % 6 = n ∧ n ≤ 5 := ⟨(nth l 0 i % 6).toNat, by omega, by omega⟩
      have HYtplafccjgbeojaa := Lib.hid hn
      clear hn
      have hkk : 0 ≤ kk % 31 ∧ kk % 31 < 31 := by omega
      by_cases hik : (i : Int) = kk % 31
      case' pos =>
        have hb0 : ((i : Int) == kk % 31) = true := by simpa using hik
        have hlsn0 : (0 : Int) ≤ lsn := by omega
        clear hik
        go_wp2_with fail
        refine (new_go hL.held 2 (by decide) _ _).mono ?_
        rintro e w4 ⟨Sb, K4, rfl, hh4, hlb, hk4, hb4⟩
        go_wp2_with fail
        refine (queued_go hh4 (hL.live.below hb4 hk4) 1000).mono ?_
        rintro e w5 ⟨qa, qk, qc, K5, rfl, ht, hh5, hl5, hb5, hk5⟩
        obtain ⟨rfl, _, _⟩ := ht.shape
        have hqn : (queued sa 1000).length = sa.queue.length := by unfold queued; simp; have := hL.q; omega
        have hL' : Late w w5 K5 Sa sa lsn := { hL with held := hh5, live := hl5 }
        have hB' : LateB w5 K5 lsn sa (.pointer (some ⟨Sb, 0, none⟩)) (queued sa 1000).length := by
          have hlb' := hlb.below hb5 hk5
          refine .inr ⟨Sb, _, sa.queue.map (·.told), rfl, ⟨hlb'.rep, hlb'.fits.mono (Nat.zero_le _) (by omega), hlb'.inv⟩, ⟨?_, ?_, ?_, hL.acked, Int.le_refl _, by simp [newSlot]⟩, by rw [hqn]; simp⟩
          · rw [hfol.out]; rfl
          · rw [hL.last]; show max (lsn : Int) 0 = lsn; omega
          · rw [hL.now]; rfl
        generalize (queued sa 1000).length = ah at *
        generalize hbv : Value.pointer (some ⟨Sb, 0, none⟩) = bv2 at *
        clear ht hb5 hk5 hb4 hk4 hh4 hh5 hl5 hlb hqn hbv
      case' neg =>
        have hb0 : ((i : Int) == kk % 31) = false := by simpa using hik
        clear hik
        have hL' := hL
        have hB' := hB
        obtain ⟨w5, rfl⟩ : ∃ x, x = wr := ⟨_, rfl⟩
        obtain ⟨K5, rfl⟩ : ∃ x, x = K := ⟨_, rfl⟩
        obtain ⟨ah, rfl⟩ : ∃ x, x = ahead := ⟨_, rfl⟩
        generalize hbv : u9 = bv2 at *
        clear hbv
      all_goals
        clear hL hB
        have hc' := (Same.of_below hL'.held.below).cell (P := fun _ => True) trivial hc
        go_wp2_with fail
        refine (rest_calls (nth l 0 i) 6 _ (by decide)).mono ?_
        rintro e w6 ⟨rfl, rfl⟩
        rw [HYtplafccjgbeojaa.out]
        clear hc'
        go_wp2_with fail
        go_loopw [7, 13] (fun lv jv wr => ∃ (j lsn2 : Nat) (K : Nat → Tag) (sa2 : Slot), lv = .int .i64 lsn2 ∧ jv = .int .i64 j ∧ j ≤ n + 1 ∧ lsn2 ≤ 6 * i + j ∧ Late w wr K Sa sa2 lsn2 ∧ Solo sa2 (3 + (i : Int) % 9) ∧ Go.RowKit.Hid (j = n + 1 → sa2.follows = []) ∧ LateB wr K lsn2 sa2 bv2 ah) (fun _ jv _ => n + 1 - (intOf jv).toNat)
        case atStart => exact ⟨0, lsn, K5, sa, rfl, rfl, by omega, by omega, hL', (by intro f hf; rw [hfol.out] at hf; simp at hf), Lib.hid (by intro h; omega), hB'⟩
        case round =>
          obtain ⟨j, lsn2, K, sa2, rfl, rfl, hj, hl2, hL, hsolo, hend, hB⟩ := hrel
          by_cases hjn : j ≤ n
          · have hx9 : (0 : Int) ≤ (i : Int) % 9 ∧ (i : Int) % 9 < 9 := by omega
            have hlast := hL.last
            have HLA := Lib.hid hlast
            clear hlast
            by_cases hjeq : j = n
            · have hb1 : ((j : Int) == (n : Int)) = true := beq_iff_eq.2 (by rw [hjeq])
              have HJ := Lib.hid hjeq
              clear hjeq
              go_wp2_with fail
              have hbW : Below wr.heap.size wr ((wr.alloc (.cells #[.int .i64 1, .int .i64 j, .string ⟨#[]⟩] 30 (0, 0))).alloc (.cells #[.int .i64 5, .int .i64 (3 + (i : Int) % 9), .int .i64 0, .slice none 0 0, .slice (some ⟨wr.heap.size, 0, none⟩) 1 1, .slice none 0 0, .slice none 0 0, .string ⟨#[]⟩] 35)) := ((Below.refl _ wr).alloc (Nat.le_refl _) _).alloc (by simp) _
              have hK1 : Ext K (fun b => if b < wr.heap.size then K b else (0, 0, 0)) wr.heap.size := fun b hb => by simp [hb]
              have hr1 := (rec_one wr 5 (3 + (i : Int) % 9) 0 1 j (Imm fun b => if b < wr.heap.size then K b else (0, 0, 0)) (by simp [Imm])).then (w' := (wr.alloc (.cells #[.int .i64 1, .int .i64 j, .string ⟨#[]⟩] 30 (0, 0))).alloc (.cells #[.int .i64 5, .int .i64 (3 + (i : Int) % 9), .int .i64 0, .slice none 0 0, .slice (some ⟨wr.heap.size, 0, none⟩) 1 1, .slice none 0 0, .slice none 0 0, .string ⟨#[]⟩] 35)) ((Below.refl _ _).alloc (Nat.le_refl _) _) (fun _ _ => rfl)
              have hbx1 : ((wr.alloc (.cells #[.int .i64 1, .int .i64 j, .string ⟨#[]⟩] 30 (0, 0))).alloc (.cells #[.int .i64 5, .int .i64 (3 + (i : Int) % 9), .int .i64 0, .slice none 0 0, .slice (some ⟨wr.heap.size, 0, none⟩) 1 1, .slice none 0 0, .slice none 0 0, .string ⟨#[]⟩] 35)).heap[wr.heap.size + 1]? = some (.cells #[.int .i64 5, .int .i64 (3 + (i : Int) % 9), .int .i64 0, .slice none 0 0, .slice (some ⟨wr.heap.size, 0, none⟩) 1 1, .slice none 0 0, .slice none 0 0, .string ⟨#[]⟩] 35 (0, 0)) := by have := heap_alloc_new (wr.alloc (.cells #[.int .i64 1, .int .i64 j, .string ⟨#[]⟩] 30 (0, 0))) (.cells #[.int .i64 5, .int .i64 (3 + (i : Int) % 9), .int .i64 0, .slice none 0 0, .slice (some ⟨wr.heap.size, 0, none⟩) 1 1, .slice none 0 0, .slice none 0 0, .string ⟨#[]⟩] 35); simpa using this
              have hh1 := hL.held.then hbW hK1
              have hl1 := hL.live.below hbW hK1
              have hlt1 : sa2.last < (lsn2 : Int) + 1 := by rw [HLA.out]; omega
              refine (feed_go noCat hh1 hl1 (by decide) (by omega) ((lsn2 : Int) + 1) _ _ hr1 (plain_one (by decide))).mono ?_
              rintro e w7 ⟨rfl, K7, hh7, hl7, hst7, hk7⟩
              have hr7 := hr1.step hst7 hk7 (by decide)
              have hbx7 := (hst7.block (wr.heap.size + 1) (lt_of_block hbx1) (by rw [if_neg (by omega)]; decide)).trans hbx1
              have hL7 := hL.feed (r := (⟨5, 3 + (i : Int) % 9, 0, [], [⟨1, j, ⟨#[]⟩⟩], [], ⟨#[]⟩⟩ : Rec)) (show (5 : Int) ≠ 10 by decide) hh7 hl7
              obtain ⟨xc, xf, xl⟩ := bfacts hbx7
              have hsol : Solo (feed noCat sa2 ((lsn2 : Int) + 1) (⟨5, 3 + (i : Int) % 9, 0, [], [⟨1, j, ⟨#[]⟩⟩], [], ⟨#[]⟩⟩ : Rec)) (3 + (i : Int) % 9) := by
                first
                | exact Solo.ins (r := (⟨5, 3 + (i : Int) % 9, 0, [], [⟨1, j, ⟨#[]⟩⟩], [], ⟨#[]⟩⟩ : Rec)) hsolo hlt1 rfl
                | (intro f hf; rw [Solo.commit (r := (⟨5, 3 + (i : Int) % 9, 0, [], [⟨1, j, ⟨#[]⟩⟩], [], ⟨#[]⟩⟩ : Rec)) hsolo hlt1 rfl] at hf; simp at hf)
              have hemp : Go.RowKit.Hid (j + 1 = n + 1 → (feed noCat sa2 ((lsn2 : Int) + 1) (⟨5, 3 + (i : Int) % 9, 0, [], [⟨1, j, ⟨#[]⟩⟩], [], ⟨#[]⟩⟩ : Rec)).follows = []) := Lib.hid (by
                first
                | exact fun _ => Solo.commit (r := (⟨5, 3 + (i : Int) % 9, 0, [], [⟨1, j, ⟨#[]⟩⟩], [], ⟨#[]⟩⟩ : Rec)) hsolo hlt1 rfl
                | exact fun h => absurd (show j = n by omega) HJ.out)
              rcases hB with rfl | ⟨Sb, sb, pre, rfl, hlb, htw, hah⟩
              · clear hh1 hl1 hr1 hbx1 hst7 hk7 hh7 hl7 hr7 hbW hK1
                go_wp2
                go_roundw
                case measure => simp [intOf]; omega
                case rel => exact ⟨j + 1, lsn2 + 1, K7, _, by go_num, by go_num, by omega, by omega, hL7, hsol, hemp, .inl rfl⟩
              · have HAH := Lib.hid hah
                clear hah
                have hlb7 := (hlb.below hbW hK1).other hst7 hk7 (by decide) (by decide)
                clear hh1 hl1 hr1 hbx1 hst7 hk7 hl7 hbW hK1
                go_wp2_with fail
                refine (feed_go noCat hh7 hlb7 (by decide) (by omega) ((lsn2 : Int) + 1) _ _ hr7 (plain_one (by decide))).mono ?_
                rintro e w8 ⟨rfl, K8, hh8, hl8, hst8, hk8⟩
                have hL8 := hL.feed (r := (⟨5, 3 + (i : Int) % 9, 0, [], [⟨1, j, ⟨#[]⟩⟩], [], ⟨#[]⟩⟩ : Rec)) (show (5 : Int) ≠ 10 by decide) hh8 (hL7.live.other hst8 hk8 (by decide) (by decide))
                have htw8 := htw.feed (rd := noCat) (r := (⟨5, 3 + (i : Int) % 9, 0, [], [⟨1, j, ⟨#[]⟩⟩], [], ⟨#[]⟩⟩ : Rec)) hlt1 (show (5 : Int) ≠ 10 by decide)
                clear hst8 hk8 hr7 hbx7 xc xf xl
                go_wp2
                go_roundw
                case measure => simp [intOf]; omega
                case rel => exact ⟨j + 1, lsn2 + 1, K8, _, by go_num, by go_num, by omega, by omega, hL8, hsol, hemp, .inr ⟨Sb, _, pre, rfl, hl8, htw8, HAH.out⟩⟩
            · have hb1 : ((j : Int) == (n : Int)) = false := beq_eq_false_iff_ne.2 (by omega)
              have HJ := Lib.hid hjeq
              clear hjeq
              go_wp2_with fail
              have hbW : Below wr.heap.size wr ((wr.alloc (.cells #[.int .i64 1, .int .i64 j, .string ⟨#[]⟩] 30 (0, 0))).alloc (.cells #[.int .i64 2, .int .i64 (3 + (i : Int) % 9), .int .i64 0, .slice none 0 0, .slice (some ⟨wr.heap.size, 0, none⟩) 1 1, .slice none 0 0, .slice none 0 0, .string ⟨#[]⟩] 35)) := ((Below.refl _ wr).alloc (Nat.le_refl _) _).alloc (by simp) _
              have hK1 : Ext K (fun b => if b < wr.heap.size then K b else (0, 0, 0)) wr.heap.size := fun b hb => by simp [hb]
              have hr1 := (rec_one wr 2 (3 + (i : Int) % 9) 0 1 j (Imm fun b => if b < wr.heap.size then K b else (0, 0, 0)) (by simp [Imm])).then (w' := (wr.alloc (.cells #[.int .i64 1, .int .i64 j, .string ⟨#[]⟩] 30 (0, 0))).alloc (.cells #[.int .i64 2, .int .i64 (3 + (i : Int) % 9), .int .i64 0, .slice none 0 0, .slice (some ⟨wr.heap.size, 0, none⟩) 1 1, .slice none 0 0, .slice none 0 0, .string ⟨#[]⟩] 35)) ((Below.refl _ _).alloc (Nat.le_refl _) _) (fun _ _ => rfl)
              have hbx1 : ((wr.alloc (.cells #[.int .i64 1, .int .i64 j, .string ⟨#[]⟩] 30 (0, 0))).alloc (.cells #[.int .i64 2, .int .i64 (3 + (i : Int) % 9), .int .i64 0, .slice none 0 0, .slice (some ⟨wr.heap.size, 0, none⟩) 1 1, .slice none 0 0, .slice none 0 0, .string ⟨#[]⟩] 35)).heap[wr.heap.size + 1]? = some (.cells #[.int .i64 2, .int .i64 (3 + (i : Int) % 9), .int .i64 0, .slice none 0 0, .slice (some ⟨wr.heap.size, 0, none⟩) 1 1, .slice none 0 0, .slice none 0 0, .string ⟨#[]⟩] 35 (0, 0)) := by have := heap_alloc_new (wr.alloc (.cells #[.int .i64 1, .int .i64 j, .string ⟨#[]⟩] 30 (0, 0))) (.cells #[.int .i64 2, .int .i64 (3 + (i : Int) % 9), .int .i64 0, .slice none 0 0, .slice (some ⟨wr.heap.size, 0, none⟩) 1 1, .slice none 0 0, .slice none 0 0, .string ⟨#[]⟩] 35); simpa using this
              have hh1 := hL.held.then hbW hK1
              have hl1 := hL.live.below hbW hK1
              have hlt1 : sa2.last < (lsn2 : Int) + 1 := by rw [HLA.out]; omega
              refine (feed_go noCat hh1 hl1 (by decide) (by omega) ((lsn2 : Int) + 1) _ _ hr1 (plain_one (by decide))).mono ?_
              rintro e w7 ⟨rfl, K7, hh7, hl7, hst7, hk7⟩
              have hr7 := hr1.step hst7 hk7 (by decide)
              have hbx7 := (hst7.block (wr.heap.size + 1) (lt_of_block hbx1) (by rw [if_neg (by omega)]; decide)).trans hbx1
              have hL7 := hL.feed (r := (⟨2, 3 + (i : Int) % 9, 0, [], [⟨1, j, ⟨#[]⟩⟩], [], ⟨#[]⟩⟩ : Rec)) (show (2 : Int) ≠ 10 by decide) hh7 hl7
              obtain ⟨xc, xf, xl⟩ := bfacts hbx7
              have hsol : Solo (feed noCat sa2 ((lsn2 : Int) + 1) (⟨2, 3 + (i : Int) % 9, 0, [], [⟨1, j, ⟨#[]⟩⟩], [], ⟨#[]⟩⟩ : Rec)) (3 + (i : Int) % 9) := by
                first
                | exact Solo.ins (r := (⟨2, 3 + (i : Int) % 9, 0, [], [⟨1, j, ⟨#[]⟩⟩], [], ⟨#[]⟩⟩ : Rec)) hsolo hlt1 rfl
                | (intro f hf; rw [Solo.commit (r := (⟨2, 3 + (i : Int) % 9, 0, [], [⟨1, j, ⟨#[]⟩⟩], [], ⟨#[]⟩⟩ : Rec)) hsolo hlt1 rfl] at hf; simp at hf)
              have hemp : Go.RowKit.Hid (j + 1 = n + 1 → (feed noCat sa2 ((lsn2 : Int) + 1) (⟨2, 3 + (i : Int) % 9, 0, [], [⟨1, j, ⟨#[]⟩⟩], [], ⟨#[]⟩⟩ : Rec)).follows = []) := Lib.hid (by
                first
                | exact fun _ => Solo.commit (r := (⟨2, 3 + (i : Int) % 9, 0, [], [⟨1, j, ⟨#[]⟩⟩], [], ⟨#[]⟩⟩ : Rec)) hsolo hlt1 rfl
                | exact fun h => absurd (show j = n by omega) HJ.out)
              rcases hB with rfl | ⟨Sb, sb, pre, rfl, hlb, htw, hah⟩
              · clear hh1 hl1 hr1 hbx1 hst7 hk7 hh7 hl7 hr7 hbW hK1
                go_wp2
                go_roundw
                case measure => simp [intOf]; omega
                case rel => exact ⟨j + 1, lsn2 + 1, K7, _, by go_num, by go_num, by omega, by omega, hL7, hsol, hemp, .inl rfl⟩
              · have HAH := Lib.hid hah
                clear hah
                have hlb7 := (hlb.below hbW hK1).other hst7 hk7 (by decide) (by decide)
                clear hh1 hl1 hr1 hbx1 hst7 hk7 hl7 hbW hK1
                go_wp2_with fail
                refine (feed_go noCat hh7 hlb7 (by decide) (by omega) ((lsn2 : Int) + 1) _ _ hr7 (plain_one (by decide))).mono ?_
                rintro e w8 ⟨rfl, K8, hh8, hl8, hst8, hk8⟩
                have hL8 := hL.feed (r := (⟨2, 3 + (i : Int) % 9, 0, [], [⟨1, j, ⟨#[]⟩⟩], [], ⟨#[]⟩⟩ : Rec)) (show (2 : Int) ≠ 10 by decide) hh8 (hL7.live.other hst8 hk8 (by decide) (by decide))
                have htw8 := htw.feed (rd := noCat) (r := (⟨2, 3 + (i : Int) % 9, 0, [], [⟨1, j, ⟨#[]⟩⟩], [], ⟨#[]⟩⟩ : Rec)) hlt1 (show (2 : Int) ≠ 10 by decide)
                clear hst8 hk8 hr7 hbx7 xc xf xl
                go_wp2
                go_roundw
                case measure => simp [intOf]; omega
                case rel => exact ⟨j + 1, lsn2 + 1, K8, _, by go_num, by go_num, by omega, by omega, hL8, hsol, hemp, .inr ⟨Sb, _, pre, rfl, hl8, htw8, HAH.out⟩⟩
          · have hjj : j = n + 1 := by omega
            have hf0 := hend.out hjj
            have HF0 := Lib.hid hf0
            clear hjj hf0
            go_wp2
            go_roundw
            case measure => simp [intOf]; omega
            case rel => exact ⟨i + 1, lsn2, ah, K, sa2, rfl, rfl, by go_num, by omega, by omega, by omega, hL, HF0, hB⟩
    · have hq := hL.q
      rcases hB with rfl | ⟨Sb, sb, pre, rfl, hlb, htw, hah⟩
      · have hbel := hL.held.below
        by_cases h0 : i < l.length
        · have h1 : (30 : Int) ≤ i := by omega
          go_wp2
          go_ret
          exact ⟨rfl, hbel⟩
        · go_wp2
          go_ret
          exact ⟨rfl, hbel⟩
      · have HAH := Lib.hid hah
        clear hah
        by_cases h0 : i < l.length
        case' pos => have h1 : (30 : Int) ≤ i := by omega
        all_goals
          clear hlt
          go_wp2_with fail
          refine (queued_go hL.held hL.live 1000).mono ?_
          rintro e w7 ⟨qa, qn, qc, K7, rfl, ht7, hh7, hl7, hb7, hk7⟩
          have hlb7 := hlb.below hb7 hk7
          obtain ⟨hqn, hq1, hq2⟩ := ht7.shape
          have hqa : queued sa 1000 = sa.queue.map (·.told) := queued_all (n := 1000) (by omega)
          have hqb : sb.queue.length ≤ 1000 := by have := congrArg List.length htw.queue; simp at this; omega
          have hqb' : queued sb 1000 = sb.queue.map (·.told) := queued_all (n := 1000) hqb
          have hdr : (queued sa 1000).drop ahead = queued sb 1000 := by rw [hqa, htw.queue, hqb', HAH.out, List.drop_left]
          have hqs : (queued sa 1000).length ≤ 200 := by rw [hqa, List.length_map]; omega
          have han : ahead ≤ qn := by rw [hqn, hqa, htw.queue, HAH.out, List.length_append]; omega
          have hd7 := ht7.drop ahead han
          rw [hdr] at hd7
          have hqn' : qn ≤ 200 := by omega
          clear hqa hqb hqb' hdr hqs
          by_cases hca : qc = ahead
          case' pos =>
            subst hca
            have hz : qn - qc = 0 := by omega
            simp only [if_true, Nat.sub_self, hz] at hd7
            clear hz
          case' neg =>
            obtain ⟨qb, qo, rfl⟩ : ∃ b o, qa = some ⟨b, o, none⟩ := by
              rcases ht7.base with ⟨h1, h2⟩ | h1
              · exfalso; omega
              · exact h1
            simp only [hca, if_false, Option.map_some, Addr.add_lit] at hd7
        all_goals
          clear hqn
          go_wp2_with fail
          refine wp_region_plan (fun _ => True) [9, 13] [(0, 0), (1, 0), (2, 0), (3, 0), (4, 0), (5, 0), (6, 0), (7, 0), (8, 0), (10, 0), (11, 0), (12, 0), (9, 2), (13, 2), (14, 0), (15, 0)] (by kernel_rfl) (by kernel_rfl) (fun _ _ d _ _ h => by first | exact absurd h.1 (fun h => by cases h) | (cases d <;> exact h)) ?_
          have hS := trivial
          repeat (first | (refine plan_soft rfl rfl rfl ?_; intro K hK; go_big_quiet_op; go_big_quiet_on))
          refine plan_dog rfl rfl ?_
          intro K hK
          go_wp2_with fail
          have hbd : Below w7.heap.size w7 w7.drew := (Below.refl _ _).drew
          refine (queued_go (hh7.then hbd (fun _ _ => rfl)) (hlb7.below hbd (fun _ _ => rfl)) 1000).mono ?_
          rintro e w8 ⟨ra, rn, rc, K8, rfl, ht8, hh8, hl8, hb8, hk8⟩
          refine hK _ _ ⟨fun _ _ => trivial, ?_⟩
          have hd8 := (hd7.then hbd (K' := K7) (fun _ _ => rfl)).then hb8 hk8
          have hok8 := okTxns_queued hlb.fits 1000
          have hlen8 : (queued sb 1000).length ≤ 1000000 := by unfold queued; simp; omega
          clear hK K hb8 hk8 hd7 ht7
          (try simp only [Act.put, List.setIfInBounds_toArray, List.set_cons_zero, List.set_cons_succ])
          refine plan_dog rfl rfl ?_
          intro K hK
          go_wp2_with fail
          refine (same_eq _ _ (queued sb 1000) (Imm K8) (Imm K8) _ ht8 hd8 hlen8 hok8).mono ?_
          rintro e w9 ⟨rfl, hb9⟩
          refine hK _ _ ⟨fun _ _ => trivial, ?_⟩
          have hB9 := Below.step hh8.below (Nat.le_refl _) hb9
          clear hK K hd8 ht8 hb9
          (try simp only [Act.put, List.setIfInBounds_toArray, List.set_cons_zero, List.set_cons_succ])
          repeat (first | (refine plan_soft rfl rfl rfl ?_; intro K hK; go_big_quiet_op; go_big_quiet_on))
          show Exit.then _ _ _ _ _
          go_wp2
          go_ret
          exact ⟨rfl, hB9⟩
end Go.Proofs.Ytplafccjgbeojaa
