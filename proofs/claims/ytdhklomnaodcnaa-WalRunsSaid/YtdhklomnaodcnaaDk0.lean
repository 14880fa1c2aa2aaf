/- The program's device: walks. -/
import Derived.Test.YtdhklomnaodcnaaProg
import Derived.Test.YtdhklomnaodcnaaMem
namespace Go.Proofs.Ytdhklomnaodcnaa
open Go.RowKit

set_option maxHeartbeats 400000 in
theorem off_calls (b : Nat) (dn : Bool) (w : World) (h4 : w.cell? ⟨b, 4, none⟩ = some (.bool dn)) :
    Calls Try.prog 53 #[.pointer (some ⟨b, 0, none⟩)] w fun e w' => e = .returned (.bool dn) ∧ w = w' := by
  go_enter Try.func53, Try.ntmps53
  go_wp2
  go_ret
  exact ⟨rfl, rfl⟩

set_option maxHeartbeats 400000 in
theorem size_calls (b : Nat) (a : Option Addr) (n c : Nat) (w : World) (h4 : w.cell? ⟨b, 0, none⟩ = some (.slice a n c)) :
    Calls Try.prog 54 #[.pointer (some ⟨b, 0, none⟩)] w fun e w' => e = .returned (.int .i64 n) ∧ w = w' := by
  go_enter Try.func54, Try.ntmps54
  go_wp2
  go_ret
  exact ⟨rfl, rfl⟩
end Go.Proofs.Ytdhklomnaodcnaa
