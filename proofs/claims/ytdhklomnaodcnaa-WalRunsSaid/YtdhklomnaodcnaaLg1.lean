/- Room and Span of both logs: walks. -/
import Derived.Test.YtdhklomnaodcnaaLg
import Derived.Test.YtdhklomnaodcnaaRefP
import Derived.StillTailTactics
import Derived.Deep.QuietTactic
import Derived.BigQuiet
namespace Go.Proofs.Ytdhklomnaodcnaa
open Go.RowKit

theorem Lg.base_le {L : Lg} (h : L.Ok) : L.base ≤ L.start ∧ L.start < L.base + 54 := by unfold Lg.base; omega

set_option maxHeartbeats 1000000 in
set_option maxRecDepth 100000 in
theorem room_calls (b bd : Nat) (L : Lg) (F : Nat → Prop) (w : World) (h : LogAt w b L bd F) (hok : L.Ok) :
    Calls Try.prog 28 #[.pointer (some ⟨b, 0, none⟩)] w fun e w' => e = .returned (.int .i64 L.room) ∧ ∃ m, w' = w.drewN m := by
  obtain ⟨vb, vl, hb, h1, h2, fb, f1, f2, d⟩ := h
  have hn := hok.n2
  have hbig := hok.big
  have hbl := Lg.base_le hok
  have hsf := hok.sf
  have hff := hok.ff
  have c2 := hb.cell (i := 2) rfl
  have c4 := hb.cell (i := 4) rfl
  have c6 := hb.cell (i := 6) rfl
  have hr : ((L.n : Int) * 54 - ((L.fin : Int) - (L.base : Int))) = L.room := by unfold Lg.room; omega
  have HR := Lib.hid hr
  have w1 : IntKind.i64.wrap ((L.n : Int) * 54) = (L.n : Int) * 54 := IntWalk.i64_in _ (by omega)
  have w2 : IntKind.i64.wrap ((L.fin : Int) - (L.base : Int)) = (L.fin : Int) - (L.base : Int) := IntWalk.i64_in _ (by omega)
  have w3 : IntKind.i64.wrap ((L.n : Int) * 54 - ((L.fin : Int) - (L.base : Int))) = (L.n : Int) * 54 - ((L.fin : Int) - (L.base : Int)) := IntWalk.i64_in _ (by omega)
  clear hr d f1 f2 h1 h2 hb
  go_enter Try.func28, Try.ntmps28
  go_wp2_with fail
  go_still_tail 15, (by kernel_rfl)
  change wpList _ _ _ _ _ w.drew
  go_wp2_with fail
  go_ret
  exact ⟨by rw [← HR.out]; rfl, 1, rfl⟩

set_option maxHeartbeats 1000000 in
set_option maxRecDepth 100000 in
theorem rroom_calls (b bd : Nat) (L : Lg) (F : Nat → Prop) (w : World) (h : RLogAt w b L bd F) (hok : L.Ok) :
    Calls Try.prog 29 #[.pointer (some ⟨b, 0, none⟩)] w fun e w' => e = .returned (.int .i64 L.room) ∧ ∃ m, w' = w.drewN m := by
  obtain ⟨vl, hb, h2, fb, f2⟩ := h
  have hn := hok.n2
  have hbig := hok.big
  have hbl := Lg.base_le hok
  have hsf := hok.sf
  have hff := hok.ff
  have c2 := hb.cell (i := 2) rfl
  have c4 := hb.cell (i := 4) rfl
  have c3 := hb.cell (i := 3) rfl
  have hr : (54 * (L.n : Int) - ((L.fin : Int) - (L.base : Int))) = L.room := by unfold Lg.room; omega
  have HR := Lib.hid hr
  have w1 : IntKind.i64.wrap (54 * (L.n : Int)) = 54 * (L.n : Int) := IntWalk.i64_in _ (by omega)
  have w2 : IntKind.i64.wrap ((L.fin : Int) - (L.base : Int)) = (L.fin : Int) - (L.base : Int) := IntWalk.i64_in _ (by omega)
  have w3 : IntKind.i64.wrap (54 * (L.n : Int) - ((L.fin : Int) - (L.base : Int))) = 54 * (L.n : Int) - ((L.fin : Int) - (L.base : Int)) := IntWalk.i64_in _ (by omega)
  have HF := Lib.hid (fun w' => floor_calls L.start (by omega) w')
  have eb : L.start / 54 * 54 = L.base := rfl
  rw [eb] at HF
  clear hr f2 h2 hb eb
  go_enter Try.func29, Try.ntmps29
  go_wp2_with fail
  go_quiet ((go_at_call 42; exact quiet_w (HF.out _)))
  go_wp2_with fail
  go_ret
  exact ⟨by rw [← HR.out]; rfl, _, rfl⟩

set_option maxHeartbeats 1000000 in
set_option maxRecDepth 100000 in
theorem span_calls (b bd : Nat) (L : Lg) (F : Nat → Prop) (w : World) (h : LogAt w b L bd F) :
    Calls Try.prog 27 #[.pointer (some ⟨b, 0, none⟩)] w fun e w' => e = .returned (.tuple #[.int .i64 L.start, .int .i64 L.fin, .int .i64 L.firm]) ∧ ∃ m, w' = w.drewN m := by
  obtain ⟨vb, vl, hb, h1, h2, fb, f1, f2, d⟩ := h
  have c3 := hb.cell (i := 3) rfl
  have c4 := hb.cell (i := 4) rfl
  have c5 := hb.cell (i := 5) rfl
  clear d f1 f2 h1 h2 hb
  go_enter Try.func27, Try.ntmps27
  go_wp2_with fail
  go_still_tail 14, (by kernel_rfl)
  change wpList _ _ _ _ _ w.drew
  go_wp2_with fail
  go_ret3
  exact ⟨rfl, 1, rfl⟩
end Go.Proofs.Ytdhklomnaodcnaa
