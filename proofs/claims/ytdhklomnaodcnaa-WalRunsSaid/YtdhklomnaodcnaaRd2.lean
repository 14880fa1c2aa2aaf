/- The reference's device: Barrier: the walk. -/
import Derived.Test.YtdhklomnaodcnaaRd1
import Derived.Deep.RegionHeld3
import Derived.StillTailTactics
namespace Go.Proofs.Ytdhklomnaodcnaa
open Go.RowKit

set_option maxHeartbeats 1000000 in
set_option maxRecDepth 100000 in
theorem rbarrier_calls (b : Nat) (D : Dk) (F : Nat → Prop) (w : World) (h : RDiskAt w b D F) (hok : D.Ok) (c : Int) (D' : Dk) (hr : D.barrier = (c, D')) :
    Calls Try.prog 38 #[.pointer (some ⟨b, 0, none⟩)] w fun e w' => e = .returned (.int .i64 c) ∧ RDiskAt w' b D' F ∧ Ext F w w' := by
  unfold Dk.barrier at hr
  by_cases hd : D.down = true
  · rw [if_pos hd] at hr
    obtain ⟨rfl, rfl⟩ := Prod.mk.inj hr
    have key := h
    obtain ⟨vf, vs, hb, h1, h2, fb, f1, f2, d⟩ := h
    have c3 := hb.cell (i := 3) rfl
    rw [hd] at c3
    clear hr hd d f1 f2 h1 h2 hb
    go_enter Try.func38, Try.ntmps38
    go_wp2_with fail
    go_ret
    exact ⟨rfl, key, Ext.refl _ _⟩
  · rw [if_neg hd] at hr
    have hd' : D.down = false := by simpa using hd
    by_cases h0 : D.fuel = 0
    · rw [if_pos h0] at hr
      obtain ⟨rfl, rfl⟩ := Prod.mk.inj hr
      have HB := Lib.hid (rburn_calls b D F w h hok false D.off (by rw [if_pos h0]))
      obtain ⟨vf, vs, hb, h1, h2, fb, f1, f2, d⟩ := h
      have c3 := hb.cell (i := 3) rfl
      rw [hd'] at c3
      clear hr hd hd' d f1 f2 h1 h2 hb h0
      go_enter Try.func38, Try.ntmps38
      go_wp2_with (go_at_call 62; refine HB.out.mono ?_; rintro e w1 ⟨rfl, hD1, hE1⟩)
      go_ret
      exact ⟨rfl, hD1, hE1⟩
    · rw [if_neg h0] at hr
      obtain ⟨rfl, rfl⟩ := Prod.mk.inj hr
      have HB := Lib.hid (rburn_calls b D F w h hok true D.less (by rw [if_neg h0]))
      obtain ⟨vf, vs, hb, h1, h2, fb, f1, f2, d⟩ := h
      have c3 := hb.cell (i := 3) rfl
      rw [hd'] at c3
      clear hr hd hd' d f1 f2 h1 h2 hb h0
      go_enter Try.func38, Try.ntmps38
      go_wp2_with fail
      refine HB.out.mono ?_; rintro e w1 ⟨rfl, hD1, hE1⟩
      obtain ⟨vf1, vs1, hb1, k1, k2, fb1, g1, g2, d1⟩ := hD1
      simp only [Dk.less_firm, Dk.less_soft, Dk.less_down] at hb1 k1 k2
      rw [← D.seenK_zero] at k1
      clear c3
      go_wp2_with fail
      go_loopw [3] (fun v3 wr => ∃ k : Nat, k ≤ D.soft.length ∧ v3 = .int .i64 k ∧ Blk wr b [vf1, vs1, .int .i64 D.less.fuel, .bool D.down] 57 ∧ Own wr vf1 9 1 D.firm.length (strs (D.seenK k)) ∧ Own wr vs1 99 2 D.soft.length (softCells D.soft) ∧ Ext F w wr) (fun v3 _ => D.soft.length - (intOf v3).toNat)
      case atStart => exact ⟨0, Nat.zero_le _, rfl, hb1, k1, k2, hE1⟩
      case round =>
        obtain ⟨k, hk, rfl, hB, hO1, hO2, hE⟩ := hrel
        have hsl := hok.soft
        obtain ⟨bs, caps, hvs, hns, hms⟩ := hO2.shape
        by_cases hlt : k < D.soft.length
        · obtain ⟨hs64, hsn⟩ := hok.soft64 D.soft[k] (List.getElem_mem hlt)
          obtain ⟨gs, caps', curs, hvs2, hfs, _, _, _, _, _⟩ := hO2.pos (by omega)
          obtain ⟨gf, capf, curf, hvf, hff, hbf, hnf, hmf, _, _⟩ := hO1.pos (by omega)
          have q1 := hO2.cell hvs2 (softCells_fst D.soft k hlt)
          have q2 := hO2.cell hvs2 (softCells_snd D.soft k hlt)
          rw [Nat.mul_comm] at q1 q2
          have c0 := hB.cell (i := 0) rfl
          have c1 := hB.cell (i := 1) rfl
          have hlen := hok.len
          have qf := hO1.cell hvf (i := D.soft[k].1) (u := .string ((D.seenK k).getD D.soft[k].1 ⟨#[]⟩)) (by
            have : D.soft[k].1 < (D.seenK k).length := by rw [D.seenK_length]; exact hsn
            simp [strs, List.getD, this])
          have rf := hO1.fr hvf (by omega) D.soft[k].1
          rw [hvf] at c0
          rw [hvs2] at c1
          have kB : Blk (wr.setCell ⟨gf, D.soft[k].1, none⟩ (.string D.soft[k].2)) b [vf1, vs1, .int .i64 D.less.fuel, .bool D.down] 57 := hB.far _ (fun e => (g1 gf hff).2 e.symm)
          have kO1 : Own (wr.setCell ⟨gf, D.soft[k].1, none⟩ (.string D.soft[k].2)) vf1 9 1 D.firm.length (strs (D.seenK (k + 1))) := by
            rw [D.seenK_succ k hlt, strs, List.map_set]
            exact hO1.set hvf (by omega) _
          have kO2 : Own (wr.setCell ⟨gf, D.soft[k].1, none⟩ (.string D.soft[k].2)) vs1 99 2 D.soft.length (softCells D.soft) := hO2.far _ (fun e => d1 gf hff e)
          have kE : Ext F w (wr.setCell ⟨gf, D.soft[k].1, none⟩ (.string D.soft[k].2)) := hE.setCell _ (fun _ => (g1 gf hff).1)
          have KB := Lib.hid kB
          have KO1 := Lib.hid kO1
          have KO2 := Lib.hid kO2
          have KE := Lib.hid kE
          have hsn' : ((D.soft[k].1 : Nat) : Int) < D.firm.length := by omega
          clear kB kO1 kO2 kE hvs hvs2 hfs hvf hff hO1 hO2 hB hE g1 g2 d1 k1 k2 hb1 hE1 hbf hs64
          go_wp2_with fail
          go_still_tail 21, (by kernel_rfl)
          change wpList _ _ _ _ _ wr.drew
          go_wp2_with fail
          exact ⟨⟨k + 1, by omega, by go_num, KB.out.drew, KO1.out.drew, KO2.out.drew, KE.out.drew⟩, by simp [intOf]; omega⟩
        · have : k = D.soft.length := by omega
          subst this
          have c0 := hB.cell (i := 0) rfl
          have c1 := hB.cell (i := 1) rfl
          have r1 := hB.fr 1
          rw [hvs] at c1
          rw [D.seenK_all] at hO1
          have key : RDiskAt (wr.setCell ⟨b, 1, none⟩ (.slice none 0 0)) b D.flat F :=
            ⟨vf1, .slice none 0 0, hB.set 1 _, by
              have := hO1.far (p := ⟨b, 1, none⟩) (.slice none 0 0) (fun e => (g1 b e).2 rfl)
              show Own _ _ 9 1 D.seen.length (strs D.seen)
              rw [D.seen_length]
              exact this, Own.nil _ _ _, fb1, g1, by simp [fp], by simp [fp]⟩
          have kext : Ext F w (wr.setCell ⟨b, 1, none⟩ (.slice none 0 0)) := hE.setCell _ (fun _ => fb1)
          clear hvs hO1 hO2 hB hE g1 g2 d1 k1 k2 hb1 hE1
          go_wp2_with fail
          go_ret
          exact ⟨rfl, key, kext⟩
end Go.Proofs.Ytdhklomnaodcnaa
