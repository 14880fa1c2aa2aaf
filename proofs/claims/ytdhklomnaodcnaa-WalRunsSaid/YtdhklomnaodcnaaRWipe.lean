/- jettyref07's wipe: the walk. -/
import Derived.Test.YtdhklomnaodcnaaRHeld
import Derived.Test.YtdhklomnaodcnaaKept
namespace Go.Proofs.Ytdhklomnaodcnaa
open Go.RowKit

set_option maxHeartbeats 4000000 in
set_option maxRecDepth 100000 in
theorem rwipe_calls (b bd : Nat) (L : Lg) (D : Dk) (FL FD : Nat → Prop) (w : World) (h : RLogAt w b L bd FL) (hok : L.Ok) (hd : RDiskAt w bd D FD) (hD : D.Ok) (hdn : D.down = false) (hfu : D.fuel = -1) (hring : L.first + L.n ≤ D.firm.length) (hsf : D.soft.length ≤ 900000) (hdis : ∀ k, FL k → ¬ FD k) :
    Calls Try.prog 52 #[.pointer (some ⟨b, 0, none⟩)] w fun e w' => e = .returned (.int .i64 0) ∧ RLogAt w' b L bd FL ∧ RDiskAt w' bd (L.wipes L.n 0 D).flat (Fsh FD w) ∧ Ext FD w w' := by
  have HH := Lib.hid h
  have HD := Lib.hid hd
  have HDIS := Lib.hid hdis
  have hn2 := hok.n2
  have hlen := hD.len
  obtain ⟨vl, hb, k2, fb, f2⟩ := h
  have KB := Lib.hid hb
  have nb : ¬ FD b := hdis b fb
  have C0 := fun w' (e : Ext FD w w') => (KB.out.ext e nb).cell (i := 0) rfl
  have C1 := fun w' (e : Ext FD w w') => (KB.out.ext e nb).cell (i := 1) rfl
  have C2 := fun w' (e : Ext FD w w') => (KB.out.ext e nb).cell (i := 2) rfl
  clear k2 f2 hb hd hdis
  go_enter Try.func52, Try.ntmps52
  go_wp2_with fail
  go_loopw [3] (fun v3 wr => ∃ (i : Nat) (Di : Dk), v3 = .int .i64 i ∧ i ≤ L.n ∧ RDiskAt wr bd Di (Fsh FD w) ∧ Di.Ok ∧ Di.down = false ∧ Di.fuel = -1 ∧ Di.firm.length = D.firm.length ∧ Di.soft.length ≤ D.soft.length + i ∧ Hid (L.wipes (L.n - i) i Di = L.wipes L.n 0 D) ∧ Ext FD w wr) (fun v3 _ => L.n - (intOf v3).toNat)
  case atStart => exact ⟨0, D, rfl, Nat.zero_le _, HD.out.mono (fun _ _ h => .inl h), hD, hdn, hfu, rfl, Nat.le_refl _, rfl, Ext.refl _ _⟩
  case round =>
    obtain ⟨i, Di, rfl, hin, hDi, hDok, hDd, hDf, hDl, hDs, hW, hE⟩ := hrel
    have KD := Lib.hid hDi
    have KDd := Lib.hid hDd
    have KDf := Lib.hid hDf
    clear hDi hDd hDf
    by_cases hlt : i < L.n
    · obtain ⟨j, hj⟩ : ∃ x, L.first + i = x := ⟨_, rfl⟩
      have w1 : IntKind.i64.wrap ((L.first : Int) + (i : Int)) = (j : Int) := by rw [show (L.first : Int) + (i : Int) = (j : Int) by omega]; exact IntWalk.i64_in _ (by omega)
      have w2 : IntKind.i64.wrap ((i : Int) + 1) = (i : Int) + 1 := IntWalk.i64_in _ (by omega)
      obtain ⟨s, hs⟩ : ∃ x, Di.seen.getD j ⟨#[]⟩ = x := ⟨_, rfl⟩
      have HRd := Lib.hid (fun m => rread_calls bd Di _ (wr.drewN m) (KD.out.ext (Ext.ofDrew wr m) (fun _ _ _ => id)) hDok j (by omega) (by omega) s 0 (by rw [Dk.read_in KDd.out (by omega), hs]))
      go_wp2_with fail
      go_quiet ((go_at_call 47; exact quiet_w (HRd.out _)))
      have hE1 := hE.drewN nq
      have HHe := Lib.hid (rheld_calls b bd L FL (wr.drewN nq) (HH.out.ext hE1 (fun k _ h => HDIS.out k h)) hok i hlt)
      go_wp2_with fail
      refine HHe.out.mono ?_
      rintro e w3 ⟨rfl, hE3⟩
      have hE4 : Ext FD w w3 := hE1.trans hE3 (fun _ _ h => h.elim)
      have D3 := Lib.hid (KD.out.ext ((Ext.ofDrew wr nq).trans hE3 (fun _ _ h => h)) (fun _ _ _ => id))
      have hW' : L.wipes (L.n - i) i Di = L.wipes L.n 0 D := hW.out
      rw [show L.n - i = (L.n - (i + 1)) + 1 by omega, Lg.wipes_succ, hj, hs] at hW'
      obtain ⟨v, hv⟩ : ∃ x, L.want i = x := ⟨_, rfl⟩
      have hv64 : v.size = 64 := by rw [← hv]; exact L.want_size i
      rw [hv] at hW' ⊢
      by_cases heq : s = v
      · rw [if_pos heq] at hW'
        have HW := Lib.hid hW'
        have hb1 : (s == v) = true := (Go.MapKept.bytes_beq s v).2 heq
        have hb2 : (s != v) = false := by unfold bne; rw [hb1]; rfl
        clear hW hW' hs hv hE1 hE3
        subst heq
        go_wp2_with fail
        exact ⟨⟨i + 1, Di, by go_num, by omega, D3.out, hDok, KDd.out, KDf.out, hDl, by omega, HW.out, hE4⟩, by simp [intOf]; omega⟩
      · rw [if_neg heq] at hW'
        have HW := Lib.hid hW'
        have hb1 : (s == v) = false := by
          cases h : (s == v) with
          | false => rfl
          | true => exact absurd ((Go.MapKept.bytes_beq s v).1 h) heq
        have hb2 : (s != v) = true := by unfold bne; rw [hb1]; rfl
        have hb3 : (s.toList == v.toList) = false := by
          rw [beq_eq_false_iff_ne]
          intro h
          rw [Go.ByteArray.toList_eq, Go.ByteArray.toList_eq] at h; exact heq (ByteArray.ext (Array.ext' h))
        have HWr := Lib.hid (rwrite_calls bd Di _ w3.drew (D3.out.ext (Ext.ofDrew w3 1) (fun _ _ _ => id)) hDok (by omega) j (by omega) (by omega) v (by omega) 0 (Di.put j v) (Dk.write_put KDd.out KDf.out (by omega) hv64))
        have hOk := Dk.write_Ok hDok (j : Int) v (by omega)
        rw [Dk.write_put KDd.out KDf.out (by omega) hv64] at hOk
        have HO := Lib.hid hOk
        have hE5 := hE4.drew
        clear hW hW' hs hv hE1 hE3 hOk
        go_wp2_with fail
        go_still_tail 11, (by kernel_rfl)
        change wpList _ _ _ _ _ w3.drew
        go_wp2_with fail
        refine HWr.out.mono ?_
        rintro e w5 ⟨rfl, hD5, hE6⟩
        have hE7 : Ext FD w w5 := hE5.fsh hE6
        have D5 := Lib.hid (hD5.mono (F' := Fsh FD w) (fun k _ h => h.elim id (fun h => .inr (Nat.le_trans hE5.size h))))
        clear hD5 hE6 hE5
        go_wp2_with fail
        go_roundw
        case rel => exact ⟨i + 1, Di.put j v, by go_num, by omega, D5.out, HO.out.1, KDd.out, Dk.put_free KDf.out _ _, by have := HO.out.2.1; omega, by have := HO.out.2.2; omega, HW.out, hE7⟩
        case measure => simp [intOf]; omega
    · have hin' : i = L.n := by omega
      have hW' : L.wipes (L.n - i) i Di = L.wipes L.n 0 D := hW.out
      rw [show L.n - i = 0 by omega] at hW'
      have HW : Hid (Di = L.wipes L.n 0 D) := hW'
      have HB := Lib.hid (rbarrier_calls bd Di _ _ KD.out hDok 0 Di.flat (Dk.barrier_flat KDd.out KDf.out))
      clear hW hW' hin'
      go_wp2_with fail
      refine HB.out.mono ?_
      rintro e w5 ⟨rfl, hD5, hE6⟩
      have hE7 := Lib.hid (hE.fsh hE6)
      rw [HW.out] at hD5
      have D5 := Lib.hid hD5
      clear hD5 hE6
      go_wp2_with fail
      go_ret
      exact ⟨rfl, HH.out.ext hE7.out (fun k _ h => HDIS.out k h), D5.out, hE7.out⟩
end Go.Proofs.Ytdhklomnaodcnaa
