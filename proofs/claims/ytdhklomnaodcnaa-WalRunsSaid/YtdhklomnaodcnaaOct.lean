/- octet's numbers: walks. -/
import Derived.Test.YtdhklomnaodcnaaProg
import Derived.Test.YtdhklomnaodcnaaConv
namespace Go.Proofs.Ytdhklomnaodcnaa
open Go.RowKit

theorem mk2 : ∀ w, (Instr.makeSlice 76 (.int .i64 2) (.int .i64 2)).run Try.prog w = .ok (.slice (some ⟨w.heap.size, 0, none⟩) 2 2) (w.alloc (.cells #[.int .u8 0, .int .u8 0] 5)) := fun _ => by kernel_rfl
theorem mk8 : ∀ w, (Instr.makeSlice 76 (.int .i64 8) (.int .i64 8)).run Try.prog w = .ok (.slice (some ⟨w.heap.size, 0, none⟩) 8 8) (w.alloc (.cells #[.int .u8 0, .int .u8 0, .int .u8 0, .int .u8 0, .int .u8 0, .int .u8 0, .int .u8 0, .int .u8 0] 5)) := fun _ => by kernel_rfl

/-- string(b) of a block that was just made. -/
theorem conv_new (w : World) (l : List UInt8) (cs : List Value) (hcs : bytesV l = cs) (n : Nat) (hn : l.length = n) :
    (convert 76 9 (.slice (some ⟨w.heap.size, 0, none⟩) n n)).run Try.prog (w.alloc (.cells cs.toArray 5)) = .ok (.string ⟨l.toArray⟩) (w.alloc (.cells cs.toArray 5)) := by
  subst hcs
  refine run_conv 76 9 5 Try.underlying76 Try.underlying5 Try.underlying9 _ n n l hn (by simp) ?_
  intro ad had i v hv
  cases had
  rw [Addr.add_lit, World.cell?_alloc_new]
  simp [bytesV, hv]

set_option maxHeartbeats 1000000 in
set_option maxRecDepth 100000 in
theorem num2_calls (n : Nat) (hn : n < 65536) (w : World) :
    Calls Try.prog 39 #[.int .u64 n, .int .i64 2] w fun e w' => e = .returned (.tuple #[.string ⟨(le 2 n).toArray⟩, .int .i64 0]) ∧ Below w.heap.size w w' := by
  have ht : ((n : Int) / 65536 != 0) = false := by simp; omega
  have Hn := Lib.hid hn
  clear hn
  have hmk := mk2
  have hcv := conv_new w (le 2 n) _ (le2 n) 2 (le_length 2 n)
  go_enter Try.func39, Try.ntmps39
  go_wp2_with fail
  refine wp_loop_rounds 3 ?_
  repeat any_goals (rw [rounds_succ]; go_wp2_with fail)
  go_ret2
  exact ⟨rfl, (Below.refl _ _).alloc (Nat.le_refl _) _⟩

set_option maxHeartbeats 1000000 in
set_option maxRecDepth 100000 in
theorem num8_calls (n : Nat) (w : World) :
    Calls Try.prog 39 #[.int .u64 n, .int .i64 8] w fun e w' => e = .returned (.tuple #[.string ⟨(le 8 n).toArray⟩, .int .i64 0]) ∧ Below w.heap.size w w' := by
  have hmk := mk8
  have hcv := conv_new w (le 8 n) _ (le8 n) 8 (le_length 8 n)
  go_enter Try.func39, Try.ntmps39
  go_wp2_with fail
  refine wp_loop_rounds 9 ?_
  repeat any_goals (rw [rounds_succ]; go_wp2_with fail)
  go_ret2
  exact ⟨rfl, (Below.refl _ _).alloc (Nat.le_refl _) _⟩
end Go.Proofs.Ytdhklomnaodcnaa
