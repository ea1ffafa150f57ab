/- vintnerlaw16.SlotMixed -/
import Derived.Test.YtplafccjgbeojaaWrk
import Derived.Test.YtplafccjgbeojaaPl5
open Go Go.RowKit
namespace Go.Proofs.Ytplafccjgbeojaa
open Pm

theorem Pm.Mixed.ins' {rd : ByteArray → Option (List Tab)} {s : Slot} {c : Nat → Nat} {lsn x j : Nat} (h : Mixed s (upd c x j) lsn) (hx : x < 3) : Mixed (feed rd s ((lsn : Int) + 1) (insRec x j)) (upd c x (j + 1)) (lsn + 1) := by
  have := h.ins (rd := rd) x hx
  rw [upd_self] at this
  refine cast ?_ this
  congr 1
  funext i
  unfold upd
  by_cases h : i = x <;> simp [h]

theorem mix_start {L c : Nat → Nat} {x : Nat} (hx : x < 3) (hc : ∀ i, i < 3 → c i = if i < x then L i else 0) : upd c x 0 = upd c x (c x) := by
  rw [hc x hx, if_neg (Nat.lt_irrefl x)]
theorem mix_next {L c : Nat → Nat} {x : Nat} (hc : ∀ i, i < 3 → c i = if i < x then L i else 0) : ∀ i, i < 3 → upd c x (L x) i = if i < x + 1 then L i else 0 := by
  intro i hi
  unfold upd
  by_cases h : i = x
  · subst h; simp
  · rw [if_neg h, hc i hi]
    by_cases h' : i < x
    · rw [if_pos h', if_pos (by omega)]
    · rw [if_neg h', if_neg (by omega)]

def Sched (c d : Nat → Nat) (len n k i : Nat) : Prop := i ≤ len ∨ (k < n → ∃ e, e ≤ 2 ∧ d ((i + e) % 3) < c ((i + e) % 3) ∧ i + e ≤ len + 3 * k + 2)

theorem some_left {c d : Nat → Nat} (h : tot d < tot c) : ∃ x, x < 3 ∧ d x < c x := by
  unfold tot at h
  by_cases h0 : d 0 < c 0
  · exact ⟨0, by decide, h0⟩
  by_cases h1 : d 1 < c 1
  · exact ⟨1, by decide, h1⟩
  exact ⟨2, by decide, by omega⟩

theorem some_turn {c d : Nat → Nat} (h : tot d < tot c) (i : Nat) : ∃ e, e ≤ 2 ∧ d ((i + e) % 3) < c ((i + e) % 3) := by
  obtain ⟨x, hx, hd⟩ := some_left h
  refine ⟨(x + 3 - i % 3) % 3, by omega, ?_⟩
  rw [show (i + (x + 3 - i % 3) % 3) % 3 = x by omega]
  exact hd

theorem sched_miss {c d : Nat → Nat} {len n k i x : Nat} (hn : n = tot c) (hk : k = tot d) (hkn : k < n) (hi : i ≤ len + 3 * k + 2) (h : Sched c d len n k i) (hx : len ≤ i → x = i % 3) (hs : ¬ d x < c x) : i + 1 ≤ len + 3 * k + 2 ∧ Sched c d len n k (i + 1) := by
  by_cases hl : i < len
  · exact ⟨by omega, .inl (by omega)⟩
  have hx' := hx (by omega)
  have hall : ∃ e, e ≤ 2 ∧ d ((i + e) % 3) < c ((i + e) % 3) ∧ i + e ≤ len + 3 * k + 2 := by
    rcases h with h | h
    · obtain ⟨e, h1, h2⟩ := some_turn (c := c) (d := d) (by omega) i
      exact ⟨e, h1, h2, by omega⟩
    · exact h hkn
  obtain ⟨e, h1, h2, h3⟩ := hall
  have he : e ≠ 0 := by
    rintro rfl
    rw [Nat.add_zero, ← hx'] at h2
    exact hs h2
  refine ⟨by omega, .inr fun _ => ⟨e - 1, by omega, ?_, by omega⟩⟩
  rw [show i + 1 + (e - 1) = i + e by omega]
  exact h2

theorem sched_hit {c d : Nat → Nat} {len n k i : Nat} (hn : n = tot c) (hk : k = tot d) (hi : i ≤ len + 3 * k + 2) (d' : Nat → Nat) (hd' : k + 1 = tot d') : i + 1 ≤ len + 3 * (k + 1) + 2 ∧ Sched c d' len n (k + 1) (i + 1) := by
  refine ⟨by omega, .inr fun hkn => ?_⟩
  obtain ⟨e, h1, h2⟩ := some_turn (c := c) (d := d') (by omega) (i + 1)
  exact ⟨e, h1, h2, by omega⟩

set_option maxRecDepth 100000 in
set_option maxHeartbeats 3200000 in
theorem slotMixed_calls (m : Nat → Int) (va : Option Addr) (vc : Nat) (l : List Int) (w : World) (hvc : l.length ≤ vc) (hvd : vc ≤ 1152921504606846976) (hcell : Shows w va l.length fun i => .int .i64 (nth l 0 i)) :
    Calls Try.prog 4 #[.agg #[.int .i64 (m 0), .int .i64 (m 1), .int .i64 (m 2)], .slice va l.length vc] w fun e w' => e = .returned (.bool true) ∧ Below w.heap.size w w' := by
  have HC := Lib.hid hcell
  clear hcell
  obtain ⟨L, HL⟩ : ∃ L : Nat → Nat, ∀ i, m i % 9 = L i ∧ L i ≤ 8 := ⟨fun i => (m i % 9).toNat, fun i => by show m i % 9 = ((m i % 9).toNat : Int) ∧ (m i % 9).toNat ≤ 8; omega⟩
  have HLL := Lib.hid HL
  clear HL
  go_enter Try.func4, Try.ntmps4
  go_wp2_with fail
  refine (sanity_calls _).mono ?_
  rintro e w1 ⟨rfl, hb1⟩
  have hB1 := ((Below.refl w.heap.size w).alloc (Nat.le_refl _) (.cells #[.int .i64 (m 0), .int .i64 (m 1), .int .i64 (m 2)] 39)).trans (hb1.mono (by simp))
  have hblk := (hb1.block w.heap.size (by simp)).trans (heap_alloc_new w _)
  have hlt1 : w.heap.size < w1.heap.size := lt_of_block hblk
  have hh1 := (Held.start w).then hB1 (K' := fun b => if b = w.heap.size then (3, 0, 0) else (0, 0, 0)) (fun b hb => by simp; omega)
  have hM1 : ArrK w1 (fun b => if b = w.heap.size then (3, 0, 0) else (0, 0, 0)) w.heap.size m := ⟨hblk, by simp⟩
  clear hb1 hB1 hblk
  go_wp2_with fail
  refine (new_go hh1 1 (by decide) _ _).mono ?_
  rintro e w2 ⟨Sa, K2, rfl, hh2, hl2, hk2, hb2⟩
  have hM2 := hM1.then hb2 hk2
  clear hb2 hk2 hM1 hh1 hlt1
  go_wp2_with fail
  refine (new_go hh2 2 (by decide) _ _).mono ?_
  rintro e w3 ⟨Sb, K3, rfl, hh3, hlb3, hk3, hb3⟩
  have hM3 := hM2.then hb3 hk3
  have hl3 := hl2.below hb3 hk3
  clear hb3 hk3 hM2 hh2 hl2
  have hB4 : Below w3.heap.size w3 (w3.alloc (.cells #[.int .i64 0, .int .i64 0, .int .i64 0] 39)) := (Below.refl _ _).alloc (Nat.le_refl _) _
  have hK4 : Ext K3 (fun b => if b < w3.heap.size then K3 b else (3, 0, 0)) w3.heap.size := fun b hb => by simp [hb]
  have hL0 : ArrK (w3.alloc (.cells #[.int .i64 0, .int .i64 0, .int .i64 0] 39)) (fun b => if b < w3.heap.size then K3 b else (3, 0, 0)) w3.heap.size (fun i => (((fun _ => 0 : Nat → Nat) i : Nat) : Int)) := ⟨heap_alloc_new w3 _, by simp⟩
  have hne : w.heap.size ≠ w3.heap.size := by have := hM3.lt; omega
  have hM4 := hM3.then hB4 hK4
  have hh4 := hh3.then hB4 hK4
  have hl4 := hl3.below hB4 hK4
  have hlb4 := hlb3.below hB4 hK4
  generalize hLb : w3.heap.size = Lb at *
  generalize hMb : w.heap.size = Mb at hM4 hne
  clear hM3 hh3 hl3 hlb3 hB4 hK4
  go_wp2_with fail
  go_loopw [9, 10] (fun nv xv wr => ∃ (x n : Nat) (K : Nat → Tag) (sa : Slot) (c : Nat → Nat), nv = .int .i64 n ∧ xv = .int .i64 x ∧ x ≤ 3 ∧ n ≤ 8 * x ∧ Held w wr K ∧ Live wr K 1 Sa sa n ∧ Live wr K 2 Sb (newSlot ⟨#[115]⟩ (max 0 0) (max 0 0) []) 0 ∧ ArrK wr K Mb m ∧ ArrK wr K Lb (fun i => (c i : Nat)) ∧ Go.RowKit.Hid ((∀ i, i < 3 → c i = if i < x then L i else 0) ∧ n = tot c) ∧ Mixed sa c n) (fun _ xv _ => 3 - (intOf xv).toNat)
  case atStart => exact ⟨0, 0, _, _, fun _ => 0, rfl, rfl, by omega, by omega, hh4, hl4, hlb4, hM4, hL0, Lib.hid ⟨fun i _ => by simp, rfl⟩, Mixed.new _⟩
  case round =>
    obtain ⟨x, n, K, sa, c, rfl, rfl, hx, hn8, hh, hl, hlb, hM, hL, HCC, hmix⟩ := hrel
    by_cases hx3 : x < 3
    · have hmc := hM.cell hx3
      have hmf := hM.frozen x
      have hlc := hL.cell hx3
      have hlf := hL.frozen x
      go_wp2_with fail
      refine (rest_calls (m x) 9 _ (by decide)).mono ?_
      rintro e w5 ⟨rfl, rfl⟩
      rw [(HLL.out x).1]
      have hs := hL.wrote x (.int .i64 (L x : Nat))
      have hh5 := hh.step hs (fun _ _ => rfl) (by decide)
      have hl5 := hl.other hs (fun _ _ => rfl) (by decide) (by decide)
      have hlb5 := hlb.other hs (fun _ _ => rfl) (by decide) (by decide)
      have hM5 := hM.other hne x (.int .i64 (L x : Nat))
      have hL5 := hL.setN hx3 (L x)
      have hLx : L x ≤ 8 := (HLL.out x).2
      clear hs hh hl hlb hM hL
      go_wp2_with fail
      clear hmc hmf hlc hlf
      go_loopw [9, 11] (fun nv jv wr => ∃ (j : Nat) (K : Nat → Tag) (sa : Slot), nv = .int .i64 (n + j : Nat) ∧ jv = .int .i64 j ∧ j ≤ L x ∧ Held w wr K ∧ Live wr K 1 Sa sa (n + j) ∧ Live wr K 2 Sb (newSlot ⟨#[115]⟩ (max 0 0) (max 0 0) []) 0 ∧ ArrK wr K Mb m ∧ ArrK wr K Lb (fun i => (upd c x (L x) i : Nat)) ∧ Mixed sa (upd c x j) (n + j)) (fun _ jv _ => L x - (intOf jv).toNat)
      case atStart => exact ⟨0, K, sa, rfl, rfl, by omega, hh5, hl5, hlb5, hM5, hL5, by rw [mix_start hx3 HCC.out.1, upd_id]; exact hmix⟩
      case round =>
        obtain ⟨j, K, sa, rfl, rfl, hj, hh, hl, hlb, hM, hL, hmix⟩ := hrel
        have hlc := hL.cell hx3
        have hlf := hL.frozen x
        rw [upd_self] at hlc
        by_cases hjl : j < L x
        · go_wp2_with fail
          have hbW : Below wr.heap.size wr (wr.alloc (.cells #[.int .i64 1, .int .i64 (10 * (x : Int) + (j : Int)), .string ⟨#[]⟩] 30)) := (Below.refl _ wr).alloc (Nat.le_refl _) _
          have hK1 : Ext K (fun b => if b < wr.heap.size then K b else (0, 0, 0)) wr.heap.size := fun b hb => by simp [hb]
          have hr1 := rec_one wr 2 (3 + (x : Int)) 0 1 (10 * (x : Int) + (j : Int)) (Imm fun b => if b < wr.heap.size then K b else (0, 0, 0)) (by simp [Imm])
          have hh1 := hh.then hbW hK1
          have hl1 := hl.below hbW hK1
          refine (feed_go noCat hh1 hl1 (by decide) (by omega) ((n : Int) + j + 1) _ _ hr1 (plain_one (by decide))).mono ?_
          rintro e w7 ⟨rfl, K7, hh7, hl7, hst7, hk7⟩
          have hlb7 := (hlb.below hbW hK1).other hst7 hk7 (by decide) (by decide)
          have hM7 := (hM.then hbW hK1).step hst7 hk7 (by decide)
          have hL7 := (hL.then hbW hK1).step hst7 hk7 (by decide)
          have hm7 := hmix.ins' (rd := noCat) hx3
          rw [Int.natCast_add] at hm7
          clear hh hl hlb hM hL hmix hh1 hl1 hr1 hbW hK1 hst7 hk7 hlc hlf
          go_wp2
          go_roundw
          case measure => simp [intOf]; omega
          case rel => exact ⟨j + 1, K7, _, by go_num, by go_num, by omega, hh7, hl7, hlb7, hM7, hL7, hm7⟩
        · have hjj : j = L x := by omega
          subst hjj
          go_wp2
          go_roundw
          case measure => simp [intOf]; omega
          case rel => exact ⟨x + 1, n + L x, K, sa, upd c x (L x), rfl, by go_num, by omega, by omega, hh, hl, hlb, hM, hL, Lib.hid ⟨mix_next HCC.out.1, by have h1 := tot_upd c hx3 (L x); have h2 := HCC.out.2; have h3 := HCC.out.1 x hx3; simp at h3; omega⟩, hmix⟩
    · have hx4 : x = 3 := by omega
      subst hx4
      obtain ⟨hcc, hnt⟩ := HCC.out
      have hcL : ∀ i, i < 3 → c i = L i := fun i hi => by rw [hcc i hi, if_pos hi]
      have HCL := Lib.hid hcL
      have HNT := Lib.hid hnt
      clear hcc hnt hcL HCC hM
      have hB6 : Below wr.heap.size wr (wr.alloc (.cells #[.int .i64 0, .int .i64 0, .int .i64 0] 39)) := (Below.refl _ _).alloc (Nat.le_refl _) _
      have hK6 : Ext K (fun b => if b < wr.heap.size then K b else (3, 0, 0)) wr.heap.size := fun b hb => by simp [hb]
      have hA6 : ArrK (wr.alloc (.cells #[.int .i64 0, .int .i64 0, .int .i64 0] 39)) (fun b => if b < wr.heap.size then K b else (3, 0, 0)) wr.heap.size (fun i => (((fun _ => 0 : Nat → Nat) i : Nat) : Int)) := ⟨heap_alloc_new wr _, by simp⟩
      have hne6 : Lb ≠ wr.heap.size := by have := hL.lt; omega
      have hL6 := hL.then hB6 hK6
      have hh6 := hh.then hB6 hK6
      have hl6 := hl.below hB6 hK6
      have hlb6 := hlb.below hB6 hK6
      generalize hAb : wr.heap.size = Ab at *
      clear hh hl hlb hL hB6 hK6
      go_wp2_with fail
      go_loopw [13, 14] (fun nv iv wr => ∃ (k i : Nat) (K : Nat → Tag) (sb : Slot) (d : Nat → Nat), nv = .int .i64 k ∧ iv = .int .i64 i ∧ k ≤ n ∧ i ≤ l.length + 3 * k + 2 ∧ Held w wr K ∧ Live wr K 1 Sa sa n ∧ Live wr K 2 Sb sb k ∧ ArrK wr K Lb (fun i => (c i : Nat)) ∧ ArrK wr K Ab (fun i => (d i : Nat)) ∧ Go.RowKit.Hid ((∀ i, i < 3 → d i ≤ c i) ∧ k = tot d ∧ Sched c d l.length n k i) ∧ Mixed sb d k) (fun _ iv _ => l.length + 100 - (intOf iv).toNat)
      case atStart => exact ⟨0, 0, _, _, fun _ => 0, rfl, rfl, by omega, by omega, hh6, hl6, hlb6, hL6, hA6, Lib.hid ⟨fun i _ => by simp, rfl, .inl (by omega)⟩, Mixed.new _⟩
      case round =>
        obtain ⟨k, i, K, sb, d, rfl, rfl, hk, hi, hh, hla, hl, hL, hA, HD, hmb⟩ := hrel
        by_cases hkn : k < n
        · by_cases hil : i < l.length
          case' pos =>
            obtain ⟨x, hx3, hxi, hxl⟩ : ∃ x : Nat, x < 3 ∧ (l.length ≤ i → x = i % 3) ∧ nth l 0 i % 3 = x := ⟨(nth l 0 i % 3).toNat, by omega, by omega, by omega⟩
            obtain ⟨b, off, rfl, hbl, hc⟩ := HC.out i hil
            have hc' := (Same.of_below hh.below).cell (P := fun _ => True) trivial hc
            have HX := Lib.hid hxi
            have HXL := Lib.hid hxl
            clear hxi hxl hc
            go_wp2_with fail
            refine (rest_calls (nth l 0 i) 3 _ (by decide)).mono ?_
            rintro e w8 ⟨rfl, rfl⟩
            rw [HXL.out]
            clear hc' HXL
            have hac := hA.cell hx3
            have hlc := hL.cell hx3
            go_wp2_with fail
          case' neg =>
            obtain ⟨x, hx3, hxi, hxl⟩ : ∃ x : Nat, x < 3 ∧ (l.length ≤ i → x = i % 3) ∧ (i : Int) % 3 = x := ⟨i % 3, by omega, fun _ => rfl, by omega⟩
            have HX := Lib.hid hxi
            have HXL := Lib.hid hxl
            clear hxi hxl
            obtain ⟨w8, rfl⟩ : ∃ y, y = wr := ⟨_, rfl⟩
            have hac := hA.cell hx3
            have hlc := hL.cell hx3
            go_wp2_with fail
            rw [HXL.out]
            clear HXL
          all_goals
            obtain ⟨hdc, hkd, hsc⟩ := HD.out
            have HDC := Lib.hid hdc
            have HKD := Lib.hid hkd
            have HSC := Lib.hid hsc
            clear hdc hkd hsc HD
            refine wp_region_plan (fun w' => w'.cell? ⟨Ab, x, none⟩ = some (.int .i64 (d x : Nat)) ∧ w'.cell? ⟨Lb, x, none⟩ = some (.int .i64 (c x : Nat))) [] [(0, 0), (1, 0), (2, 1), (3, 0), (4, 0), (5, 1), (6, 0)] (by kernel_rfl) (by kernel_rfl) (fun _ _ d _ _ h => by first | exact absurd h.1 (fun h => by cases h) | (cases d <;> exact h)) ?_
            have hS : w8.drew.cell? ⟨Ab, x, none⟩ = some (.int .i64 (d x : Nat)) ∧ w8.drew.cell? ⟨Lb, x, none⟩ = some (.int .i64 (c x : Nat)) := ⟨hac, hlc⟩
            repeat (first | (refine plan_soft rfl rfl rfl ?_; intro K hK; go_big_quiet_op; go_big_quiet_on) | (refine plan_load hS rfl rfl rfl rfl (fun w' hw' => loadVar_one (by kernel_rfl) hw'.1) ?_; (try simp only [Act.put, List.setIfInBounds_toArray, List.set_cons_zero, List.set_cons_succ])) | (refine plan_load hS rfl rfl rfl rfl (fun w' hw' => loadVar_one (by kernel_rfl) hw'.2) ?_; (try simp only [Act.put, List.setIfInBounds_toArray, List.set_cons_zero, List.set_cons_succ])))
            show Exit.then _ _ _ _ _
            by_cases hs : d x < c x
            · have hms := sched_hit HNT.out HKD.out hi (upd d x (d x + 1)) (by have := tot_upd d hx3 (d x + 1); have := HKD.out; omega)
              have HMS := Lib.hid hms
              clear hms
              have hd8 : d x ≤ 8 := by have h1 := HDC.out x hx3; have h2 := HCL.out x hx3; have h3 := (HLL.out x).2; omega
              have hlc0 := hlc
              clear hlc
              go_wp2_with fail
              have hbW : Below w8.heap.size w8 (w8.alloc (.cells #[.int .i64 1, .int .i64 (10 * (x : Int) + (d x : Int)), .string ⟨#[]⟩] 30)).drew := ((Below.refl _ w8).alloc (Nat.le_refl _) _).drew
              have hK1 : Ext K (fun b => if b < w8.heap.size then K b else (0, 0, 0)) w8.heap.size := fun b hb => by simp [hb]
              have hr1 := (rec_one w8 2 (3 + (x : Int)) 0 1 (10 * (x : Int) + (d x : Int)) (Imm fun b => if b < w8.heap.size then K b else (0, 0, 0)) (by simp [Imm])).then (w' := (w8.alloc (.cells #[.int .i64 1, .int .i64 (10 * (x : Int) + (d x : Int)), .string ⟨#[]⟩] 30)).drew) ((Below.refl _ _).drew) (fun _ _ => rfl)
              have hh1 := hh.then hbW hK1
              have hl1 := hl.below hbW hK1
              refine (feed_go noCat hh1 hl1 (by decide) (by omega) ((k : Int) + 1) _ _ hr1 (plain_one (by decide))).mono ?_
              rintro e w7 ⟨rfl, K7, hh7, hl7, hst7, hk7⟩
              have hla7 := (hla.below hbW hK1).other hst7 hk7 (by decide) (by decide)
              have hA7 := (hA.then hbW hK1).step hst7 hk7 (by decide)
              have hL7 := (hL.then hbW hK1).step hst7 hk7 (by decide)
              have hm7 := hmb.ins (rd := noCat) x hx3
              have hac7 := hA7.cell hx3
              have haf7 := hA7.frozen x
              have hv := hA7.wrote x (.int .i64 ((d x : Int) + 1))
              have hA8 := hA7.setN hx3 (d x + 1)
              have e1 : (((d x + 1 : Nat)) : Int) = (d x : Int) + 1 := by omega
              rw [e1] at hA8
              have hL8 := hL7.other hne6 x (.int .i64 ((d x : Int) + 1))
              have hh8 := hh7.step hv (fun _ _ => rfl) (by decide)
              have hl8 := hl7.other hv (fun _ _ => rfl) (by decide) (by decide)
              have hla8 := hla7.other hv (fun _ _ => rfl) (by decide) (by decide)
              have hdc8 : ∀ i', i' < 3 → upd d x (d x + 1) i' ≤ c i' := fun i' hi' => by
                unfold upd
                by_cases h : i' = x
                · subst h; simp; omega
                · rw [if_neg h]; exact HDC.out i' hi'
              have hkt : k + 1 = tot (upd d x (d x + 1)) := by have := tot_upd d hx3 (d x + 1); have := HKD.out; omega
              have HH := Lib.hid (And.intro hdc8 hkt)
              clear e1 hdc8 hkt hh hla hl hL hA hmb hh1 hl1 hr1 hbW hK1 hst7 hk7 hac hS hla7 hA7 hL7 hh7 hl7 hv
              go_wp2
              go_roundw
              case measure => simp [intOf]; omega
              case rel => exact ⟨k + 1, i + 1, K7, _, upd d x (d x + 1), by go_num, by go_num, by omega, HMS.out.1, hh8, hla8, hl8, hL8, hA8, Lib.hid ⟨HH.out.1, HH.out.2, HMS.out.2⟩, hm7⟩
            · have hms := sched_miss HNT.out HKD.out hkn hi HSC.out HX.out hs
              have HMS := Lib.hid hms
              clear hms
              have hbd : Below w8.heap.size w8 w8.drew := (Below.refl _ _).drew
              go_wp2
              go_roundw
              case measure => simp [intOf]; omega
              case rel => exact ⟨k, i + 1, K, sb, d, rfl, by go_num, hk, HMS.out.1, hh.then hbd (fun _ _ => rfl), hla.below hbd (fun _ _ => rfl), hl.below hbd (fun _ _ => rfl), hL.then hbd (fun _ _ => rfl), hA.then hbd (fun _ _ => rfl), Lib.hid ⟨HDC.out, HKD.out, HMS.out.2⟩, hmb⟩
        · have hkn' : k = n := by omega
          subst hkn'
          obtain ⟨hdc, hkd, hsc⟩ := HD.out
          have hcd : ∀ i', i' < 3 → c i' = d i' := fun i' hi' => by
            have h0 := hdc 0 (by decide)
            have h1 := hdc 1 (by decide)
            have h2 := hdc 2 (by decide)
            have h3 := HNT.out
            unfold tot at hkd h3
            match i', hi' with
            | 0, _ => omega
            | 1, _ => omega
            | 2, _ => omega
          have hp := hmix.pair hmb hcd
          clear hdc hkd hsc HD hcd hL hA hmb HNT HCL hi
          go_wp2_with fail
          go_loopw [16] (fun xv wr => ∃ (x : Nat) (K : Nat → Tag) (sa sb : Slot), xv = .int .i64 x ∧ x ≤ 3 ∧ Held w wr K ∧ Live wr K 1 Sa sa (k + x) ∧ Live wr K 2 Sb sb (k + x) ∧ Pm.Pair sa sb x (k + x)) (fun xv _ => 3 - (intOf xv).toNat)
          case atStart => exact ⟨0, K, sa, sb, rfl, by omega, hh, hla, hl, hp⟩
          case round =>
            obtain ⟨x, K, sa, sb, rfl, hx, hh, hla, hl, hp⟩ := hrel
            by_cases hx3 : x < 3
            · go_wp2_with fail
              have e0 : (k : Int) + 1 + x = ((k + x : Nat) : Int) + 1 := by omega
              refine (feed_go noCat hh hla (by decide) (by omega) ((k : Int) + 1 + x) _ _ (rec_bare wr (Imm K) 5 (5 - (x : Int)) 0) (plain_bare (by decide))).mono ?_
              rintro e w7 ⟨rfl, K7, hh7, hla7, hst7, hk7⟩
              have hl7 := hl.other hst7 hk7 (by decide) (by decide)
              have hp7 := hp.commit (rd := noCat)
              rw [← e0] at hp7
              clear e0 hh hla hl hp hst7 hk7
              go_wp2_with fail
              refine (feed_go noCat hh7 hl7 (by decide) (by omega) ((k : Int) + 1 + x) _ _ (rec_bare w7 (Imm K7) 5 (5 - (x : Int)) 0) (plain_bare (by decide))).mono ?_
              rintro e w8 ⟨rfl, K8, hh8, hl8, hst8, hk8⟩
              have hla8 := hla7.other hst8 hk8 (by decide) (by decide)
              clear hh7 hla7 hl7 hst8 hk8
              go_wp2
              go_roundw
              case measure => simp [intOf]; omega
              case rel => exact ⟨x + 1, K8, _, _, by go_num, by omega, hh8, hla8, hl8, hp7⟩
            · have hx4 : x = 3 := by omega
              subst hx4
              obtain ⟨hfa, hfb⟩ := hp.done
              have hqq : queued sa 9 = queued sb 9 := hp.queued 9
              have HFA := Lib.hid hfa
              have HFB := Lib.hid hfb
              clear hfa hfb hp
              go_wp2_with fail
              refine (queued_go hh hla 9).mono ?_
              rintro e w7 ⟨qa, qn, qc, K7, rfl, ht7, hh7, hla7, hb7, hk7⟩
              have hl7 := hl.below hb7 hk7
              rw [hqq] at ht7
              clear hh hla hl hb7 hk7 hqq
              go_wp2_with fail
              refine (queued_go hh7 hl7 9).mono ?_
              rintro e w8 ⟨ra, rn, rc, K8, rfl, ht8, hh8, hl8, hb8, hk8⟩
              have hla8 := hla7.below hb8 hk8
              have hd8 := ht7.then hb8 hk8
              have hok8 := okTxns_queued hl8.fits 9
              have hlen8 : (queued sb 9).length ≤ 1000000 := by unfold queued; simp; omega
              clear ht7 hh7 hla7 hl7 hb8 hk8
              go_wp2_with fail
              refine (same_eq _ _ (queued sb 9) (Imm K8) (Imm K8) _ hd8 ht8 hlen8 hok8).mono ?_
              rintro e w9 ⟨rfl, hb9⟩
              have hB9 := Below.step hh8.below (Nat.le_refl _) hb9
              have hla9 := hla8.below hb9 (fun _ _ => rfl)
              have hl9 := hl8.below hb9 (fun _ _ => rfl)
              clear ht8 hd8 hlen8 hok8 hb9 hh8 hla8 hl8
              go_wp2_with fail
              refine (open_zero hla9.rep HFA.out).mono ?_
              rintro e w10 ⟨rfl, rfl⟩
              go_wp2_with fail
              refine (open_zero hl9.rep HFB.out).mono ?_
              rintro e w11 ⟨rfl, rfl⟩
              go_wp2
              go_ret
              exact ⟨rfl, hB9⟩
end Go.Proofs.Ytplafccjgbeojaa
