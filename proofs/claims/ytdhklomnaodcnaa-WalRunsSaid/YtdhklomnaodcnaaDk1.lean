/- The program's device: burn, Read, Write. -/
import Derived.Test.YtdhklomnaodcnaaProg
import Derived.Test.YtdhklomnaodcnaaDk
import Derived.Test.YtdhklomnaodcnaaDk0
namespace Go.Proofs.Ytdhklomnaodcnaa
open Go.RowKit

set_option maxHeartbeats 400000 in
theorem burn_calls (b : Nat) (D : Dk) (F : Nat → Prop) (w : World) (h : DiskAt w b D F) (hok : D.Ok) (r : Bool) (D' : Dk) (hr : (r, D') = if D.fuel = 0 then (false, D.off) else (true, D.less)) :
    Calls Try.prog 61 #[.pointer (some ⟨b, 0, none⟩)] w fun e w' => e = .returned (.bool r) ∧ DiskAt w' b D' F ∧ Ext F w w' := by
  obtain ⟨vf, vs, vn, hb, h1, h2, h3, fb, f1, f2, f3, d⟩ := h
  have hlo := hok.lo
  have hhi := hok.hi
  have c3 := hb.cell (i := 3) rfl
  have c4 := hb.cell (i := 4) rfl
  have r3 := hb.fr 3
  have r4 := hb.fr 4
  by_cases h0 : D.fuel = 0
  · rw [if_pos h0] at hr
    obtain ⟨rfl, rfl⟩ := Prod.mk.inj hr
    have h0' : (D.fuel == 0) = true := by simp [h0]
    have key : DiskAt (w.setCell ⟨b, 4, none⟩ (.bool true)) b D.off F := 
      ⟨vf, vs, vn, hb.set 4 _, h1.far _ (fun e => (f1 _ e).2 rfl), h2.far _ (fun e => (f2 _ e).2 rfl), h3.far _ (fun e => (f3 _ e).2 rfl), fb, f1, f2, f3, d⟩
    have kext : Ext F w (w.setCell ⟨b, 4, none⟩ (.bool true)) := (Ext.refl F w).setCell _ fun _ => fb
    clear hr h0 d f1 f2 f3 h1 h2 h3 hb
    go_enter Try.func61, Try.ntmps61
    go_wp2
    go_ret
    exact ⟨rfl, key, kext⟩
  · rw [if_neg h0] at hr
    obtain ⟨rfl, rfl⟩ := Prod.mk.inj hr
    have h0' : (D.fuel == 0) = false := by simp [h0]
    by_cases hp : 0 < D.fuel
    · have key : DiskAt (w.setCell ⟨b, 3, none⟩ (.int .i64 (D.fuel - 1))) b D.less F := 
        ⟨vf, vs, vn, by simpa [Dk.less, if_pos hp] using hb.set 3 (.int .i64 (D.fuel - 1)), h1.far _ (fun e => (f1 _ e).2 rfl), h2.far _ (fun e => (f2 _ e).2 rfl), h3.far _ (fun e => (f3 _ e).2 rfl), fb, f1, f2, f3, d⟩
      have kext : Ext F w (w.setCell ⟨b, 3, none⟩ (.int .i64 (D.fuel - 1))) := (Ext.refl F w).setCell _ fun _ => fb
      clear hr h0 d f1 f2 f3 h1 h2 h3 hb
      go_enter Try.func61, Try.ntmps61
      go_wp2
      go_ret
      exact ⟨rfl, key, kext⟩
    · have key : DiskAt w b D.less F := 
        ⟨vf, vs, vn, by simpa [Dk.less, if_neg hp] using hb, h1, h2, h3, fb, f1, f2, f3, d⟩
      clear hr h0 d f1 f2 f3 h1 h2 h3 hb
      go_enter Try.func61, Try.ntmps61
      go_wp2
      go_ret
      exact ⟨rfl, key, Ext.refl _ _⟩

set_option maxHeartbeats 400000 in
theorem read_calls (b : Nat) (D : Dk) (F : Nat → Prop) (w : World) (h : DiskAt w b D F) (hok : D.Ok) (i : Int) (hi0 : -9223372036854775808 ≤ i) (hi1 : i ≤ 9223372036854775807) (s : ByteArray) (c : Int) (hr : (s, c) = D.read i) :
    Calls Try.prog 31 #[.pointer (some ⟨b, 0, none⟩), .int .i64 i] w fun e w' => e = .returned (.tuple #[.string s, .int .i64 c]) ∧ w = w' := by
  obtain ⟨vf, vs, vn, hb, h1, h2, h3, fb, f1, f2, f3, d⟩ := h
  have hlen := hok.len
  have c4 := hb.cell (i := 4) rfl
  have c2 := hb.cell (i := 2) rfl
  unfold Dk.read at hr
  by_cases hd : D.down = true
  · rw [if_pos hd] at hr
    obtain ⟨rfl, rfl⟩ := Prod.mk.inj hr
    rw [hd] at c4
    clear hr hd d f1 f2 f3 h1 h2 h3 hb
    go_enter Try.func31, Try.ntmps31
    go_wp2_with (go_at_call 53; refine (off_calls b true _ (by assumption)).mono ?_; rintro e w' ⟨rfl, rfl⟩)
    go_ret2
    exact ⟨rfl, rfl⟩
  · rw [if_neg hd] at hr
    have hd' : D.down = false := by simpa using hd
    rw [hd'] at c4
    by_cases hb1 : i < 0 ∨ (D.firm.length : Int) ≤ i
    · rw [if_pos hb1] at hr
      obtain ⟨rfl, rfl⟩ := Prod.mk.inj hr
      obtain ⟨base, cap, rfl, hn, hm⟩ := h3.shape
      clear hr hd hd' d f1 f2 f3 h1 h2 h3 hb
      by_cases hneg : i < 0
      · go_enter Try.func31, Try.ntmps31
        go_wp2_with (go_at_call 53; refine (off_calls b false _ (by assumption)).mono ?_; rintro e w' ⟨rfl, rfl⟩)
        go_ret2
        exact ⟨rfl, rfl⟩
      · have hge : (D.firm.length : Int) ≤ i := by omega
        clear hb1
        go_enter Try.func31, Try.ntmps31
        go_wp2_with (go_at_call 53; refine (off_calls b false _ (by assumption)).mono ?_; rintro e w' ⟨rfl, rfl⟩)
        go_ret2
        exact ⟨rfl, rfl⟩
    · rw [if_neg hb1] at hr
      obtain ⟨rfl, rfl⟩ := Prod.mk.inj hr
      obtain ⟨j, rfl⟩ : ∃ j : Nat, i = j := ⟨i.toNat, by omega⟩
      have hj : j < D.firm.length := by omega
      have hs : (strs D.seen)[j]? = some (.string (D.seen.getD j ⟨#[]⟩)) := by
        have : j < D.seen.length := by rw [D.seen_length]; exact hj
        simp [strs, List.getD, this]
      obtain ⟨g, cap, cur, rfl, hfp, hblk, hn, hm, hl, ht⟩ := h3.pos (by omega)
      have cj := h3.cell rfl hs
      have hjj : (j : Int) < D.firm.length := by omega
      rw [Int.toNat_natCast]
      clear hr hd hd' d f1 f2 f3 h1 h2 h3 hb hblk ht hl hfp hs hb1
      go_enter Try.func31, Try.ntmps31
      go_wp2_with (go_at_call 53; refine (off_calls b false _ (by assumption)).mono ?_; rintro e w' ⟨rfl, rfl⟩)
      go_ret2
      exact ⟨rfl, rfl⟩
end Go.Proofs.Ytdhklomnaodcnaa
