/- octet's Reader: walks. -/
import Derived.Test.YtdhklomnaodcnaaOctV
namespace Go.Proofs.Ytdhklomnaodcnaa
open Go.RowKit

set_option maxHeartbeats 400000 in
theorem rd_calls (s : ByteArray) (w : World) :
    Calls Try.prog 66 #[.string s] w fun e w' => e = .returned (.pointer (some ⟨w.heap.size, 0, none⟩)) ∧ w' = w.alloc (.cells #[.string s, .bool false] 133) := by
  go_enter Try.func66, Try.ntmps66
  go_wp2
  go_ret
  exact ⟨rfl, rfl⟩

set_option maxHeartbeats 1000000 in
theorem rbytes_calls (g : Nat) (s : ByteArray) (n : Nat) (hn : n ≤ s.size) (h63 : s.size ≤ 9223372036854775807) (w : World) (h0 : w.cell? ⟨g, 0, none⟩ = some (.string s)) (h1 : w.cell? ⟨g, 1, none⟩ = some (.bool false)) (hf : w.frozen? ⟨g, 0, none⟩ = false) :
    Calls Try.prog 68 #[.pointer (some ⟨g, 0, none⟩), .int .i64 n] w fun e w' => e = .returned (.string (s.extract 0 n)) ∧ w' = w.setCell ⟨g, 0, none⟩ (.string (s.extract n s.size)) := by
  go_enter Try.func68, Try.ntmps68
  go_wp2
  go_ret
  exact ⟨rfl, rfl⟩

set_option maxHeartbeats 1000000 in
theorem rnum_calls (g : Nat) (s : ByteArray) (n : Nat) (hn : n ≤ s.size) (hn1 : 1 ≤ n) (hn8 : n ≤ 8) (h63 : s.size ≤ 9223372036854775807) (w : World) (h0 : w.cell? ⟨g, 0, none⟩ = some (.string s)) (h1 : w.cell? ⟨g, 1, none⟩ = some (.bool false)) (hf : w.frozen? ⟨g, 0, none⟩ = false) :
    Calls Try.prog 67 #[.pointer (some ⟨g, 0, none⟩), .int .i64 n] w fun e w' => e = .returned (.int .u64 (unle (s.data.toList.take n))) ∧ w' = w.setCell ⟨g, 0, none⟩ (.string (s.extract n s.size)) := by
  have HB := Lib.hid (rbytes_calls g s n hn h63 w h0 h1 hf)
  have HV := Lib.hid (fun w' => val_calls (s.extract 0 n) (by simp; omega) (by simp; omega) w')
  clear h0 h1 hf
  go_enter Try.func67, Try.ntmps67
  go_wp2_with (first | (go_at_call 68; refine HB.out.mono ?_; rintro e w' ⟨rfl, rfl⟩) | (go_at_call 49; refine (HV.out _).mono ?_; rintro e w' ⟨rfl, rfl⟩))
  go_ret
  exact ⟨rfl, rfl⟩
end Go.Proofs.Ytdhklomnaodcnaa
