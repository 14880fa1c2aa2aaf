/- The reference's device: burn, Write, Read: walks. -/
import Derived.Test.YtdhklomnaodcnaaProg
import Derived.Test.YtdhklomnaodcnaaApp
import Derived.Test.YtdhklomnaodcnaaDk
namespace Go.Proofs.Ytdhklomnaodcnaa
open Go.RowKit

theorem info99 : (Try.prog.info? 99).map (fun i => (i.zero, i.size, i.bytes)) = some (some (.agg #[.int .i64 0, .string ⟨#[]⟩]), 2, 24) := by kernel_rfl

set_option maxHeartbeats 400000 in
theorem rburn_calls (b : Nat) (D : Dk) (F : Nat → Prop) (w : World) (h : RDiskAt w b D F) (hok : D.Ok) (r : Bool) (D' : Dk) (hr : (r, D') = if D.fuel = 0 then (false, D.off) else (true, D.less)) :
    Calls Try.prog 62 #[.pointer (some ⟨b, 0, none⟩)] w fun e w' => e = .returned (.bool r) ∧ RDiskAt w' b D' F ∧ Ext F w w' := by
  obtain ⟨vf, vs, hb, h1, h2, fb, f1, f2, d⟩ := h
  have hlo := hok.lo
  have hhi := hok.hi
  have c2 := hb.cell (i := 2) rfl
  have c3 := hb.cell (i := 3) rfl
  have r2 := hb.fr 2
  have r3 := hb.fr 3
  by_cases h0 : D.fuel = 0
  · rw [if_pos h0] at hr
    obtain ⟨rfl, rfl⟩ := Prod.mk.inj hr
    have h0' : (D.fuel == 0) = true := by simp [h0]
    have key : RDiskAt (w.setCell ⟨b, 3, none⟩ (.bool true)) b D.off F :=
      ⟨vf, vs, hb.set 3 _, h1.far _ (fun e => (f1 _ e).2 rfl), h2.far _ (fun e => (f2 _ e).2 rfl), fb, f1, f2, d⟩
    have kext : Ext F w (w.setCell ⟨b, 3, none⟩ (.bool true)) := (Ext.refl F w).setCell _ fun _ => fb
    clear hr h0 d f1 f2 h1 h2 hb
    go_enter Try.func62, Try.ntmps62
    go_wp2
    go_ret
    exact ⟨rfl, key, kext⟩
  · rw [if_neg h0] at hr
    obtain ⟨rfl, rfl⟩ := Prod.mk.inj hr
    have h0' : (D.fuel == 0) = false := by simp [h0]
    by_cases hp : 0 < D.fuel
    · have key : RDiskAt (w.setCell ⟨b, 2, none⟩ (.int .i64 (D.fuel - 1))) b D.less F :=
        ⟨vf, vs, by simpa [Dk.less, if_pos hp] using hb.set 2 (.int .i64 (D.fuel - 1)), h1.far _ (fun e => (f1 _ e).2 rfl), h2.far _ (fun e => (f2 _ e).2 rfl), fb, f1, f2, d⟩
      have kext : Ext F w (w.setCell ⟨b, 2, none⟩ (.int .i64 (D.fuel - 1))) := (Ext.refl F w).setCell _ fun _ => fb
      clear hr h0 d f1 f2 h1 h2 hb
      go_enter Try.func62, Try.ntmps62
      go_wp2
      go_ret
      exact ⟨rfl, key, kext⟩
    · have key : RDiskAt w b D.less F :=
        ⟨vf, vs, by simpa [Dk.less, if_neg hp] using hb, h1, h2, fb, f1, f2, d⟩
      clear hr h0 d f1 f2 h1 h2 hb
      go_enter Try.func62, Try.ntmps62
      go_wp2
      go_ret
      exact ⟨rfl, key, Ext.refl _ _⟩

set_option maxHeartbeats 1000000 in
theorem rwrite_calls (b : Nat) (D : Dk) (F : Nat → Prop) (w : World) (h : RDiskAt w b D F) (hok : D.Ok) (hsf : D.soft.length < 1000000) (i : Int) (hi0 : -9223372036854775808 ≤ i) (hi1 : i ≤ 9223372036854775807) (s : ByteArray) (hs63 : s.size ≤ 9223372036854775807) (c : Int) (D' : Dk) (hr : D.write i s = (c, D')) :
    Calls Try.prog 37 #[.pointer (some ⟨b, 0, none⟩), .int .i64 i, .string s] w fun e w' => e = .returned (.int .i64 c) ∧ RDiskAt w' b D' (Fsh F w) ∧ Ext F w w' := by
  have hlen := hok.len
  unfold Dk.write at hr
  by_cases hd : D.down = true
  · rw [if_pos hd] at hr
    obtain ⟨rfl, rfl⟩ := Prod.mk.inj hr
    have key : RDiskAt w b D (Fsh F w) := h.mono fun k _ hk => .inl hk
    obtain ⟨vf, vs, hb, h1, h2, fb, f1, f2, d⟩ := h
    have c3 := hb.cell (i := 3) rfl
    rw [hd] at c3
    clear hr hd d f1 f2 h1 h2 hb
    go_enter Try.func37, Try.ntmps37
    go_wp2_with fail
    go_ret
    exact ⟨rfl, key, Ext.refl _ _⟩
  · rw [if_neg hd] at hr
    have hd' : D.down = false := by simpa using hd
    by_cases hb1 : i < 0 ∨ (D.firm.length : Int) ≤ i ∨ s.size ≠ 64
    · rw [if_pos hb1] at hr
      obtain ⟨rfl, rfl⟩ := Prod.mk.inj hr
      have key : RDiskAt w b D (Fsh F w) := h.mono fun k _ hk => .inl hk
      obtain ⟨vf, vs, hb, h1, h2, fb, f1, f2, d⟩ := h
      have c3 := hb.cell (i := 3) rfl
      have c0 := hb.cell (i := 0) rfl
      rw [hd'] at c3
      obtain ⟨base, cap, rfl, hn, hm⟩ := h1.shape
      clear hr hd hd' d f1 f2 h1 h2 hb
      by_cases hneg : i < 0
      · go_enter Try.func37, Try.ntmps37
        go_wp2_with fail
        go_ret
        exact ⟨rfl, key, Ext.refl _ _⟩
      · by_cases hge : (D.firm.length : Int) ≤ i
        · clear hb1
          go_enter Try.func37, Try.ntmps37
          go_wp2_with fail
          go_ret
          exact ⟨rfl, key, Ext.refl _ _⟩
        · have hs : ((s.size : Int) != 64) = true := by simp; omega
          clear hb1
          go_enter Try.func37, Try.ntmps37
          go_wp2_with fail
          go_ret
          exact ⟨rfl, key, Ext.refl _ _⟩
    · rw [if_neg hb1] at hr
      obtain ⟨j, rfl⟩ : ∃ j : Nat, i = j := ⟨i.toNat, by omega⟩
      have hj : j < D.firm.length := by omega
      have hjj : (j : Int) < D.firm.length := by omega
      have hs : ((s.size : Int) != 64) = false := by simp; omega
      obtain ⟨vf, vs, hb, h1, h2, fb, f1, f2, d⟩ := id h
      have c3 := hb.cell (i := 3) rfl
      have c0 := hb.cell (i := 0) rfl
      rw [hd'] at c3
      obtain ⟨base, cap, rfl, hn, hm⟩ := h1.shape
      by_cases h0 : D.fuel = 0
      · rw [if_pos h0] at hr
        obtain ⟨rfl, rfl⟩ := Prod.mk.inj hr
        have HB := Lib.hid (rburn_calls b D F w h hok false D.off (by rw [if_pos h0]))
        clear hr hd hd' d f1 f2 h1 h2 hb hb1 h0 h
        go_enter Try.func37, Try.ntmps37
        go_wp2_with (go_at_call 62; refine HB.out.mono ?_; rintro e w1 ⟨rfl, hD1, hE1⟩)
        go_ret
        exact ⟨rfl, hD1.mono fun k _ hk => .inl hk, hE1⟩
      · rw [if_neg h0] at hr
        obtain ⟨rfl, rfl⟩ := Prod.mk.inj hr
        have HB := Lib.hid (rburn_calls b D F w h hok true D.less (by rw [if_neg h0]))
        clear hr hd d f1 f2 h1 h2 hb hb1 h0 h
        go_enter Try.func37, Try.ntmps37
        go_wp2_with fail
        refine HB.out.mono ?_; rintro e w1 ⟨rfl, hD1, hE1⟩
        obtain ⟨vf1, vs1, hb1, k1, k2, fb1, g1, g2, d1⟩ := hD1
        simp only [Dk.less_firm, Dk.less_soft, Dk.less_down] at hb1 k1 k2
        obtain ⟨bs, caps, rfl, hns, hms⟩ := k2.shape
        have q1 := hb1.cell (i := 1) rfl
        have r1 := hb1.fr 1
        have hszb : b < w1.heap.size := hb1.lt
        have K2 := Lib.hid k2
        have K1 := Lib.hid k1
        have G1 := Lib.hid g1
        have G2 := Lib.hid g2
        have D1 := Lib.hid d1
        have HB1 := Lib.hid hb1
        clear c3 c0 k2 k1 g1 g2 d1 hb1
        go_wp2_with (at_builtin; refine wpList_append_Own rfl _ _ 55 55 rfl 99 2 24 _ Try.underlying55 (.inl Try.underlying55) info99 rfl _ D.soft.length (softCells D.soft) rfl (K2.out.alloc _) _ rfl 1 [.int .i64 j, .string s] (Src.two _ _ _ _) rfl (by simp [Value.oneCell']) (by simp only [maxLen]; omega) (by omega) ?_)
        intro v' w2 hO2 hE2 hF2
        have B2 : Blk w2 b [vf1, .slice bs D.soft.length caps, .int .i64 D.less.fuel, .bool D.down] 57 :=
          (HB1.out.alloc _).ext hE2 (fun e => (G2.out b e).2 rfl)
        have q1' := B2.cell (i := 1) rfl
        have r1' := B2.fr 1
        have E2 : Ext F w w2 := hE1.trans (((Ext.refl F w1).alloc _).trans hE2 (fun k _ hk => (G2.out k hk).1)) (fun k _ hk => hk)
        have fsz : w.heap.size ≤ w1.heap.size := hE1.size
        have FR : ∀ k, fp v' = some k → (fp (.slice bs D.soft.length caps) = some k) ∨ w1.heap.size ≤ k := fun k hk => (hF2 k hk).imp id (fun h => by omega)
        have K1' : Own w2 vf1 9 1 D.firm.length (strs D.firm) := (K1.out.alloc _).ext hE2 (fun k hk hx => D1.out k hk hx)
        have key : RDiskAt (w2.setCell ⟨b, 1, none⟩ v') b (D.put j s) (Fsh F w) := by
          refine ⟨vf1, v', B2.set 1 v', K1'.far _ (fun e => (G1.out b e).2 rfl), ?_, .inl fb1, fun k hk => ⟨.inl (G1.out k hk).1, (G1.out k hk).2⟩, fun k hk => ?_, fun k hk e => ?_⟩
          · have := hO2.far (p := ⟨b, 1, none⟩) v' (fun e => (FR b e).elim (fun h => (G2.out b h).2 rfl) (fun h => by omega))
            rw [Dk.put_soft, softCells_snoc]
            simpa using this
          · rcases FR k hk with h | h
            · exact ⟨.inl (G2.out k h).1, (G2.out k h).2⟩
            · exact ⟨.inr (by omega), by omega⟩
          · rcases FR k e with h | h
            · exact D1.out k hk h
            · have := K1.out.lt hk; omega
        have kext : Ext F w (w2.setCell ⟨b, 1, none⟩ v') := E2.setCell _ (fun _ => fb1)
        obtain ⟨bv, cv, hv, hv1, hv2⟩ := hO2.shape
        clear hO2 hE2 hF2 B2 E2 FR K1'
        rw [hv] at key kext ⊢
        clear hv
        go_wp2
        go_ret
        exact ⟨rfl, key, kext⟩

set_option maxHeartbeats 1000000 in
theorem rread_calls (b : Nat) (D : Dk) (F : Nat → Prop) (w : World) (h : RDiskAt w b D F) (hok : D.Ok) (i : Int) (hi0 : -9223372036854775808 ≤ i) (hi1 : i ≤ 9223372036854775807) (s : ByteArray) (c : Int) (hr : D.read i = (s, c)) :
    Calls Try.prog 47 #[.pointer (some ⟨b, 0, none⟩), .int .i64 i] w fun e w' => e = .returned (.tuple #[.string s, .int .i64 c]) ∧ w = w' := by
  obtain ⟨vf, vs, hb, h1, h2, fb, f1, f2, d⟩ := h
  have hlen := hok.len
  have hsl := hok.soft
  have c3 := hb.cell (i := 3) rfl
  have c0 := hb.cell (i := 0) rfl
  have c1 := hb.cell (i := 1) rfl
  unfold Dk.read at hr
  by_cases hd : D.down = true
  · rw [if_pos hd] at hr
    obtain ⟨rfl, rfl⟩ := Prod.mk.inj hr
    rw [hd] at c3
    clear hr hd d f1 f2 h1 h2 hb
    go_enter Try.func47, Try.ntmps47
    go_wp2_with fail
    go_ret2
    exact ⟨rfl, rfl⟩
  · rw [if_neg hd] at hr
    have hd' : D.down = false := by simpa using hd
    rw [hd'] at c3
    by_cases hb1 : i < 0 ∨ (D.firm.length : Int) ≤ i
    · rw [if_pos hb1] at hr
      obtain ⟨rfl, rfl⟩ := Prod.mk.inj hr
      obtain ⟨base, cap, rfl, hn, hm⟩ := h1.shape
      clear hr hd hd' d f1 f2 h1 h2 hb
      by_cases hneg : i < 0
      · go_enter Try.func47, Try.ntmps47
        go_wp2_with fail
        go_ret2
        exact ⟨rfl, rfl⟩
      · have hge : (D.firm.length : Int) ≤ i := by omega
        clear hb1
        go_enter Try.func47, Try.ntmps47
        go_wp2_with fail
        go_ret2
        exact ⟨rfl, rfl⟩
    · rw [if_neg hb1] at hr
      obtain ⟨rfl, rfl⟩ := Prod.mk.inj hr
      obtain ⟨j, rfl⟩ : ∃ j : Nat, i = j := ⟨i.toNat, by omega⟩
      have hj : j < D.firm.length := by omega
      have hs : (strs D.firm)[j]? = some (.string (D.firm.getD j ⟨#[]⟩)) := by
        simp [strs, List.getD, hj]
      obtain ⟨g, cap, cur, rfl, hfp, hblk, hn, hm, hl, ht⟩ := h1.pos (by omega)
      have cj := h1.cell rfl hs
      have hjj : (j : Int) < D.firm.length := by omega
      rw [Int.toNat_natCast]
      obtain ⟨bs, caps, rfl, hns, hms⟩ := h2.shape
      have H2 := Lib.hid h2
      clear hr hd hd' d f1 f2 h1 h2 hb hblk ht hl hfp hs hb1
      go_enter Try.func47, Try.ntmps47
      go_wp2_with fail
      go_loop [6, 7] (fun v6 v7 => ∃ k : Nat, k ≤ D.soft.length ∧ v7 = .int .i64 k ∧ v6 = .string ((D.seenK k).getD j ⟨#[]⟩)) (fun _ v7 => D.soft.length - (intOf v7).toNat)
      case atStart => exact ⟨0, Nat.zero_le _, rfl, by rw [Dk.seenK_zero]; simp [List.getD, hj]⟩
      case round =>
        obtain ⟨k, hk, rfl, rfl⟩ := hrel
        by_cases hlt : k < D.soft.length
        · obtain ⟨gs, caps', curs, hvs, _, _, _, _, _, _⟩ := H2.out.pos (by omega)
          cases hvs
          have q1 := H2.out.cell rfl (softCells_fst D.soft k hlt)
          have q2 := H2.out.cell rfl (softCells_snd D.soft k hlt)
          rw [Nat.mul_comm] at q1 q2
          have hsk := D.seenK_succ k hlt
          have hjl : j < (D.seenK k).length := by rw [D.seenK_length]; exact hj
          have Hsk := Lib.hid hsk
          clear hsk
          by_cases he : D.soft[k].1 = j
          · have he' : (((D.soft[k].1 : Nat) : Int) == (j : Int)) = true := by simp [he]
            have He := Lib.hid he
            clear he
            go_wp2_with fail
            exact ⟨⟨k + 1, by omega, by go_num, by rw [Hsk.out, He.out]; simp [List.getD, hjl]⟩, by simp [intOf]; omega⟩
          · have he' : (((D.soft[k].1 : Nat) : Int) == (j : Int)) = false := by simp; omega
            have He := Lib.hid he
            clear he
            go_wp2_with fail
            exact ⟨⟨k + 1, by omega, by go_num, by rw [Hsk.out]; simp [List.getD, He.out]⟩, by simp [intOf]; omega⟩
        · have : k = D.soft.length := by omega
          subst this
          go_wp2_with fail
          go_ret2
          exact ⟨by rw [Dk.seenK_all]; rfl, rfl⟩
end Go.Proofs.Ytdhklomnaodcnaa
