/- The program's device: Barrier: the walk. -/
import Derived.Test.YtdhklomnaodcnaaDk3
import Derived.Test.YtdhklomnaodcnaaCpy
namespace Go.Proofs.Ytdhklomnaodcnaa
open Go.RowKit

set_option maxHeartbeats 1000000 in
set_option maxRecDepth 100000 in
theorem barrier_calls (b : Nat) (D : Dk) (F : Nat → Prop) (w : World) (h : DiskAt w b D F) (hok : D.Ok) (hn : 0 < D.firm.length) (c : Int) (D' : Dk) (hr : D.barrier = (c, D')) :
    Calls Try.prog 36 #[.pointer (some ⟨b, 0, none⟩)] w fun e w' => e = .returned (.int .i64 c) ∧ DiskAt w' b D' F ∧ Ext F w w' := by
  unfold Dk.barrier at hr
  by_cases hd : D.down = true
  · rw [if_pos hd] at hr
    obtain ⟨rfl, rfl⟩ := Prod.mk.inj hr
    have key := h
    obtain ⟨vf, vs, vn, hb, h1, h2, h3, fb, f1, f2, f3, d⟩ := h
    have c4 := hb.cell (i := 4) rfl
    rw [hd] at c4
    clear hr hd d f1 f2 f3 h1 h2 h3 hb
    go_enter Try.func36, Try.ntmps36
    go_wp2_with (go_at_call 53; refine (off_calls b true _ (by assumption)).mono ?_; rintro e w' ⟨rfl, rfl⟩)
    go_ret
    exact ⟨rfl, key, Ext.refl _ _⟩
  · rw [if_neg hd] at hr
    have hd' : D.down = false := by simpa using hd
    by_cases h0 : D.fuel = 0
    · rw [if_pos h0] at hr
      obtain ⟨rfl, rfl⟩ := Prod.mk.inj hr
      have HB := Lib.hid (burn_calls b D F w h hok false D.off (by rw [if_pos h0]))
      obtain ⟨vf, vs, vn, hb, h1, h2, h3, fb, f1, f2, f3, d⟩ := h
      have c4 := hb.cell (i := 4) rfl
      rw [hd'] at c4
      clear hr hd hd' d f1 f2 f3 h1 h2 h3 hb h0
      go_enter Try.func36, Try.ntmps36
      go_wp2_with (first | (go_at_call 53; refine (off_calls b false _ (by assumption)).mono ?_; rintro e w' ⟨rfl, rfl⟩) | (go_at_call 61; refine HB.out.mono ?_; rintro e w1 ⟨rfl, hD1, hE1⟩))
      go_ret
      exact ⟨rfl, hD1, hE1⟩
    · rw [if_neg h0] at hr
      obtain ⟨rfl, rfl⟩ := Prod.mk.inj hr
      have HB := Lib.hid (burn_calls b D F w h hok true D.less (by rw [if_neg h0]))
      obtain ⟨vf, vs, vn, hb, h1, h2, h3, fb, f1, f2, f3, d⟩ := h
      have c4 := hb.cell (i := 4) rfl
      rw [hd'] at c4
      clear hr hd hd' d f1 f2 f3 h1 h2 h3 hb h0
      go_enter Try.func36, Try.ntmps36
      go_wp2_with (go_at_call 53; refine (off_calls b false _ (by assumption)).mono ?_; rintro e w' ⟨rfl, rfl⟩)
      refine HB.out.mono ?_; rintro e w1 ⟨rfl, hD1, hE1⟩
      obtain ⟨vf1, vs1, vn1, hb1, k1, k2, k3, fb1, g1, g2, g3, d1, d2, d3⟩ := hD1
      simp only [Dk.less_seen, Dk.less_firm, Dk.less_soft, Dk.less_down] at hb1 k1 k2 k3
      have q0 := hb1.cell (i := 0) rfl
      have q2 := hb1.cell (i := 2) rfl
      obtain ⟨bf, capf, hvf, _, _⟩ := k1.shape
      obtain ⟨bn, capn, hvn, _, _⟩ := k3.shape
      rw [hvf] at q0 k1 g1 d1 d2 hb1
      rw [hvn] at q2 k3 g3 d2 d3 hb1
      have K1 := Lib.hid k1
      have K2 := Lib.hid k2
      have K3 := Lib.hid k3
      have G1 := Lib.hid g1
      have G2 := Lib.hid g2
      have G3 := Lib.hid g3
      have D1 := Lib.hid d1
      have D2 := Lib.hid d2
      have D3 := Lib.hid d3
      have HB1 := Lib.hid hb1
      clear c4 k1 k2 k3 g1 g2 g3 d1 d2 d3 hb1 hvf hvn
      go_wp2_with fail
      go_still_tail 8, (by kernel_rfl)
      change wpList _ _ _ _ _ w1.drew
      refine wpList_copy_Own rfl _ _ 54 54 rfl 9 _ 1 16 Try.underlying54 info9 _ D.firm.length (strs D.firm) rfl K1.out.drew hn _ (strs D.seen) rfl K3.out.drew (strs_one _) ?_
      intro w2 hO2 hE2
      have B2 : Blk w2 b [.slice bf D.firm.length capf, vs1, .slice bn D.firm.length capn, .int .i64 D.less.fuel, .bool D.down] 75 :=
        HB1.out.drew.ext hE2 (fun e => (G1.out b e).2 rfl)
      have q1 := B2.cell (i := 1) rfl
      have s1 := B2.fr 1
      have KEY : Hid (DiskAt (w2.setCell ⟨b, 1, none⟩ (.slice none 0 0)) b D.flat F) := by
        refine ⟨.slice bf D.firm.length capf, .slice none 0 0, .slice bn D.firm.length capn, B2.set 1 _, ?_, Own.nil _ _ _, ?_, fb1, G1.out, by simp [fp], G3.out, by simp [fp], D2.out, by simp [fp]⟩
        · have := hO2.far (p := ⟨b, 1, none⟩) (.slice none 0 0) (fun e => (G1.out b e).2 rfl)
          show Own _ _ 9 1 D.seen.length (strs D.seen)
          rw [D.seen_length]; exact this
        · have := (K3.out.drew.ext hE2 (fun j hj hx => D2.out j hx hj)).far (p := ⟨b, 1, none⟩) (.slice none 0 0) (fun e => (G3.out b e).2 rfl)
          show Own _ _ 9 1 D.seen.length (strs D.seen)
          rw [D.seen_length]; exact this
      have KE : Hid (Ext F w (w2.setCell ⟨b, 1, none⟩ (.slice none 0 0))) :=
        (hE1.drew.trans hE2 (fun j _ hx => (G1.out j hx).1)).setCell _ (fun _ => fb1)
      clear B2 hE2 hO2
      go_wp2_with fail
      go_ret
      exact ⟨rfl, KEY.out, KE.out⟩
end Go.Proofs.Ytdhklomnaodcnaa
