/- The program's device: Write. -/
import Derived.Test.YtdhklomnaodcnaaApp
import Derived.Test.YtdhklomnaodcnaaDk1
namespace Go.Proofs.Ytdhklomnaodcnaa
open Go.RowKit

theorem info97 : (Try.prog.info? 97).map (fun i => (i.zero, i.size, i.bytes)) = some (some (.agg #[.int .i64 0, .string ⟨#[]⟩]), 2, 24) := by kernel_rfl

set_option maxHeartbeats 1000000 in
theorem write_calls (b : Nat) (D : Dk) (F : Nat → Prop) (w : World) (h : DiskAt w b D F) (hok : D.Ok) (hsf : D.soft.length < 1000000) (i : Int) (hi0 : -9223372036854775808 ≤ i) (hi1 : i ≤ 9223372036854775807) (s : ByteArray) (hs63 : s.size ≤ 9223372036854775807) (c : Int) (D' : Dk) (hr : D.write i s = (c, D')) :
    Calls Try.prog 35 #[.pointer (some ⟨b, 0, none⟩), .int .i64 i, .string s] w fun e w' => e = .returned (.int .i64 c) ∧ DiskAt w' b D' (Fsh F w) ∧ Ext F w w' := by
  have hlen := hok.len
  unfold Dk.write at hr
  by_cases hd : D.down = true
  · rw [if_pos hd] at hr
    obtain ⟨rfl, rfl⟩ := Prod.mk.inj hr
    have key : DiskAt w b D (Fsh F w) := h.mono fun k _ hk => .inl hk
    obtain ⟨vf, vs, vn, hb, h1, h2, h3, fb, f1, f2, f3, d⟩ := h
    have c4 := hb.cell (i := 4) rfl
    rw [hd] at c4
    clear hr hd d f1 f2 f3 h1 h2 h3 hb
    go_enter Try.func35, Try.ntmps35
    go_wp2_with (go_at_call 53; refine (off_calls b true _ (by assumption)).mono ?_; rintro e w' ⟨rfl, rfl⟩)
    go_ret
    exact ⟨rfl, key, Ext.refl _ _⟩
  · rw [if_neg hd] at hr
    have hd' : D.down = false := by simpa using hd
    by_cases hb1 : i < 0 ∨ (D.firm.length : Int) ≤ i ∨ s.size ≠ 64
    · rw [if_pos hb1] at hr
      obtain ⟨rfl, rfl⟩ := Prod.mk.inj hr
      have key : DiskAt w b D (Fsh F w) := h.mono fun k _ hk => .inl hk
      obtain ⟨vf, vs, vn, hb, h1, h2, h3, fb, f1, f2, f3, d⟩ := h
      have c4 := hb.cell (i := 4) rfl
      have c2 := hb.cell (i := 2) rfl
      rw [hd'] at c4
      obtain ⟨base, cap, rfl, hn, hm⟩ := h3.shape
      clear hr hd hd' d f1 f2 f3 h1 h2 h3 hb
      by_cases hneg : i < 0
      · go_enter Try.func35, Try.ntmps35
        go_wp2_with (go_at_call 53; refine (off_calls b false _ (by assumption)).mono ?_; rintro e w' ⟨rfl, rfl⟩)
        go_ret
        exact ⟨rfl, key, Ext.refl _ _⟩
      · by_cases hge : (D.firm.length : Int) ≤ i
        · clear hb1
          go_enter Try.func35, Try.ntmps35
          go_wp2_with (go_at_call 53; refine (off_calls b false _ (by assumption)).mono ?_; rintro e w' ⟨rfl, rfl⟩)
          go_ret
          exact ⟨rfl, key, Ext.refl _ _⟩
        · have hs : ((s.size : Int) != 64) = true := by simp; omega
          clear hb1
          go_enter Try.func35, Try.ntmps35
          go_wp2_with (go_at_call 53; refine (off_calls b false _ (by assumption)).mono ?_; rintro e w' ⟨rfl, rfl⟩)
          go_ret
          exact ⟨rfl, key, Ext.refl _ _⟩
    · rw [if_neg hb1] at hr
      obtain ⟨j, rfl⟩ : ∃ j : Nat, i = j := ⟨i.toNat, by omega⟩
      have hj : j < D.firm.length := by omega
      have hjj : (j : Int) < D.firm.length := by omega
      have hs : ((s.size : Int) != 64) = false := by simp; omega
      obtain ⟨vf, vs, vn, hb, h1, h2, h3, fb, f1, f2, f3, d⟩ := id h
      have c4 := hb.cell (i := 4) rfl
      have c2 := hb.cell (i := 2) rfl
      rw [hd'] at c4
      obtain ⟨g, cap, cur, rfl, hfp, hblk, hn, hm, hl, ht⟩ := h3.pos (by omega)
      by_cases h0 : D.fuel = 0
      · rw [if_pos h0] at hr
        obtain ⟨rfl, rfl⟩ := Prod.mk.inj hr
        have HB := Lib.hid (burn_calls b D F w h hok false D.off (by rw [if_pos h0]))
        clear hr hd hd' d f1 f2 f3 h1 h2 h3 hb hb1 h0 hblk ht hl hfp h
        go_enter Try.func35, Try.ntmps35
        go_wp2_with (first | (go_at_call 53; refine (off_calls b false _ (by assumption)).mono ?_; rintro e w' ⟨rfl, rfl⟩) | (go_at_call 61; refine HB.out.mono ?_; rintro e w1 ⟨rfl, hD1, hE1⟩))
        go_ret
        exact ⟨rfl, hD1.mono fun k _ hk => .inl hk, hE1⟩
      · rw [if_neg h0] at hr
        obtain ⟨rfl, rfl⟩ := Prod.mk.inj hr
        have HB := Lib.hid (burn_calls b D F w h hok true D.less (by rw [if_neg h0]))
        have hss : (strs D.seen)[j]? = some (.string (D.seen.getD j ⟨#[]⟩)) := by
          have : j < D.seen.length := by rw [D.seen_length]; exact hj
          simp [strs, List.getD, this]
        clear hr hd d f1 f2 f3 h1 h2 h3 hb hb1 h0 hblk ht hl hfp h
        go_enter Try.func35, Try.ntmps35
        go_wp2_with (go_at_call 53; refine (off_calls b false _ (by assumption)).mono ?_; rintro e w' ⟨rfl, rfl⟩)
        refine HB.out.mono ?_; rintro e w1 ⟨rfl, hD1, hE1⟩
        obtain ⟨vf1, vs1, vn1, hb1, k1, k2, k3, fb1, g1, g2, g3, d1, d2, d3⟩ := hD1
        simp only [Dk.less_seen, Dk.less_firm, Dk.less_soft, Dk.less_down] at hb1 k1 k2 k3
        obtain ⟨gn, capn, curn, rfl, hfpn, hblkn, hnn, hmn, hln, htn⟩ := k3.pos (by omega)
        obtain ⟨bs, caps, rfl, hns, hms⟩ := k2.shape
        have q2 := hb1.cell (i := 2) rfl
        have q1 := hb1.cell (i := 1) rfl
        have r1 := hb1.fr 1
        have qj := k3.cell rfl hss
        have rj := k3.fr rfl (by omega) j
        have hne : gn ≠ b := (g3 gn hfpn).2
        have hne' : b ≠ gn := fun e => hne e.symm
        have hsz : gn < w1.heap.size := hblkn.lt
        have hszb : b < w1.heap.size := hb1.lt
        have K2 := Lib.hid k2
        have K3 := Lib.hid k3
        have K1 := Lib.hid k1
        have G1 := Lib.hid g1
        have G2 := Lib.hid g2
        have G3 := Lib.hid g3
        have D1 := Lib.hid d1
        have D2 := Lib.hid d2
        have D3 := Lib.hid d3
        have HB1 := Lib.hid hb1
        have HFN := Lib.hid hfpn
        clear c4 c2 k2 k3 k1 g1 g2 g3 d1 d2 d3 hb1 hfpn htn hln hblkn
        have KK : Own ((w1.setCell ⟨gn, j, none⟩ (.string s)).alloc (.cells #[.int .i64 j, .string s] 97)) (.slice bs D.soft.length caps) 97 2 D.soft.length (softCells D.soft) :=
          (K2.out.far _ (fun e => D3.out gn e HFN.out)).alloc _
        have HK := Lib.hid KK
        clear KK
        go_wp2_with (at_builtin; refine wpList_append_Own rfl _ _ 73 73 rfl 97 2 24 _ Try.underlying73 (.inl Try.underlying73) info97 rfl _ D.soft.length (softCells D.soft) rfl HK.out _ rfl 1 [.int .i64 j, .string s] (Src.slice rfl (by simpa using cell_two_new (w1.setCell ⟨gn, j, none⟩ (.string s)) (.int .i64 j) (.string s) 97)) rfl (by simp [Value.oneCell']) (by simp only [maxLen]; omega) (by omega) ?_)
        intro v' w2 hO2 hE2 hF2
        have B2 : Blk w2 b [vf1, .slice bs D.soft.length caps, .slice (some ⟨gn, 0, none⟩) D.firm.length capn, .int .i64 D.less.fuel, .bool D.down] 75 :=
          ((HB1.out.far _ hne').alloc _).ext hE2 (fun e => (G2.out b e).2 rfl)
        have q1' := B2.cell (i := 1) rfl
        have r1' := B2.fr 1
        have E2 : Ext F w w2 := hE1.trans (((Ext.refl F w1).setCell _ (fun _ => (G3.out gn HFN.out).1)).alloc _ |>.trans hE2 (fun k _ hk => (G2.out k hk).1)) (fun k _ hk => hk)
        have fsz : w.heap.size ≤ w1.heap.size := hE1.size
        have FR : ∀ k, fp v' = some k → (fp (.slice bs D.soft.length caps) = some k) ∨ w1.heap.size ≤ k := fun k hk => (hF2 k hk).imp id (fun h => by omega)
        have K3' : Own w2 (.slice (some ⟨gn, 0, none⟩) D.firm.length capn) 9 1 D.firm.length (strs (D.seen.set j s)) := by
          have := (K3.out.set rfl (by omega : j < D.firm.length * 1) (.string s)).alloc (.cells #[.int .i64 j, .string s] 97)
          rw [strs, List.map_set]
          exact this.ext hE2 (fun k hk hx => D3.out k hx hk)
        have K1' : Own w2 vf1 9 1 D.firm.length (strs D.firm) :=
          ((K1.out.far _ (fun e => D2.out gn e HFN.out)).alloc _).ext hE2 (fun k hk hx => D1.out k hk hx)
        have key : DiskAt (w2.setCell ⟨b, 1, none⟩ v') b (D.put j s) (Fsh F w) := by
          refine ⟨vf1, v', .slice (some ⟨gn, 0, none⟩) D.firm.length capn, B2.set 1 v', K1'.far _ (fun e => (G1.out b e).2 rfl), ?_, ?_, .inl fb1, fun k hk => ⟨.inl (G1.out k hk).1, (G1.out k hk).2⟩, fun k hk => ?_, fun k hk => ⟨.inl (G3.out k hk).1, (G3.out k hk).2⟩, fun k hk e => ?_, D2.out, fun k hk e => ?_⟩
          · have := hO2.far (p := ⟨b, 1, none⟩) v' (fun e => (FR b e).elim (fun h => (G2.out b h).2 rfl) (fun h => by omega))
            rw [Dk.put_soft, softCells_snoc]
            simpa using this
          · have := K3'.far (p := ⟨b, 1, none⟩) v' (fun e => (G3.out b e).2 rfl)
            rw [Dk.put_seen]
            exact this
          · rcases FR k hk with h | h
            · exact ⟨.inl (G2.out k h).1, (G2.out k h).2⟩
            · exact ⟨.inr (by omega), by omega⟩
          · rcases FR k e with h | h
            · exact D1.out k hk h
            · have := K1.out.lt hk; omega
          · rcases FR k hk with h | h
            · exact D3.out k h e
            · have := K3.out.lt e; omega
        have kext : Ext F w (w2.setCell ⟨b, 1, none⟩ v') := E2.setCell _ (fun _ => fb1)
        obtain ⟨bv, cv, hv, hv1, hv2⟩ := hO2.shape
        clear hO2 hE2 hF2 B2 E2 FR K3' K1'
        rw [hv] at key kext ⊢
        clear hv
        go_wp2
        go_ret
        exact ⟨rfl, key, kext⟩
end Go.Proofs.Ytdhklomnaodcnaa
