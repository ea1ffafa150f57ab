/- vintnerlaw16.SlotNil -/
import Derived.Test.YtplafccjgbeojaaSan
open Go Go.RowKit
namespace Go.Proofs.Ytplafccjgbeojaa
open Pm

set_option maxRecDepth 100000 in
set_option maxHeartbeats 1600000 in
theorem slotNil_calls (lsn kind xid : Int) (w : World) : Calls Try.prog 7 #[.int .i64 lsn, .int .i64 kind, .int .i64 xid] w fun e w' => e = .returned (.bool true) ∧ Below w.heap.size w w' := by
  go_enter Try.func7, Try.ntmps7
  go_wp2_with fail
  refine (sanity_calls _).mono ?_
  rintro e w1 ⟨rfl, hb1⟩
  go_wp2_with fail
  refine (feed_nil lsn .nilIface _ [.int .i64 kind, .int .i64 xid, .int .i64 0, .slice none 0 0, .slice none 0 0, .slice none 0 0, .slice none 0 0, .string ⟨#[]⟩] rfl).mono ?_
  rintro e w2 ⟨rfl, hb2⟩
  have hB := Below.step hb1 (Nat.le_refl _) hb2
  clear hb1 hb2
  go_wp2_with fail
  refine (ack_nil 0 _).mono ?_
  rintro e w3 ⟨rfl, hb3⟩
  have hB3 := Below.step hB (Nat.le_refl _) hb3
  clear hB hb3
  go_wp2_with fail
  refine (queued_nil 3 _).mono ?_
  rintro e w4 ⟨rfl, rfl⟩
  go_wp2_with fail
  refine (name_nil _).mono ?_
  rintro e w4 ⟨rfl, rfl⟩
  go_wp2_with fail
  refine (acked_nil _).mono ?_
  rintro e w4 ⟨rfl, rfl⟩
  go_wp2_with fail
  refine (need_nil _).mono ?_
  rintro e w4 ⟨rfl, rfl⟩
  go_wp2_with fail
  refine (open_nil _).mono ?_
  rintro e w4 ⟨rfl, rfl⟩
  go_wp2_with fail
  refine (spilled_nil _).mono ?_
  rintro e w4 ⟨rfl, rfl⟩
  go_wp2_with fail
  refine (bytes_nil _).mono ?_
  rintro e w4 ⟨rfl, rfl⟩
  go_wp2
  go_ret
  exact ⟨rfl, hB3⟩
end Go.Proofs.Ytplafccjgbeojaa
