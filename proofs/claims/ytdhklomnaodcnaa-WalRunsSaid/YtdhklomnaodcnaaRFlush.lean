/- jettyref07's Flush: the walk. -/
import Derived.Test.YtdhklomnaodcnaaFl
import Derived.Test.YtdhklomnaodcnaaRd1
import Derived.Test.YtdhklomnaodcnaaRd2
import Derived.Test.YtdhklomnaodcnaaRSec
import Derived.Test.YtdhklomnaodcnaaLg1
import Derived.Deep.DeepCutAuto
import Derived.Deep.CutBlock
import Derived.Deep.RegionHeld3
namespace Go.Proofs.Ytdhklomnaodcnaa
open Go.RowKit

theorem bytes_part (l : List UInt8) (lo hi : Nat) (h : hi = min (lo + 54) l.length) : (⟨l.toArray⟩ : ByteArray).extract lo hi = ⟨((l.drop lo).take 54).toArray⟩ := by
  subst h
  apply ByteArray.ext
  simp only [ByteArray.data_extract, List.extract_toArray]
  congr 1
  rw [List.extract_eq_take_drop]
  by_cases h : lo + 54 ≤ l.length
  · rw [Nat.min_eq_left h, show lo + 54 - lo = 54 by omega]
  · rw [Nat.min_eq_right (by omega), List.take_of_length_le (by simp), List.take_of_length_le (by simp; omega)]

set_option maxHeartbeats 4000000 in
set_option maxRecDepth 100000 in
theorem rflush_calls (b bd : Nat) (L : Lg) (D : Dk) (FL FD : Nat → Prop) (w : World) (h : RLogAt w b L bd FL) (hok : L.Ok) (hd : RDiskAt w bd D FD) (hD : D.Ok) (hsf : D.soft.length ≤ 990000) (hdis : ∀ k, FL k → ¬ FD k)
    (t : Int) (h0 : -9223372036854775808 ≤ t) (h1 : t ≤ 9223372036854775807) (c : Int) (L' : Lg) (D' : Dk) (hr : L.flush D t = (c, L', D')) :
    Calls Try.prog 14 #[.pointer (some ⟨b, 0, none⟩), .int .i64 t] w fun e w' => e = .returned (.int .i64 c) ∧ RLogAt w' b L' bd FL ∧ RDiskAt w' bd D' (Fsh FD w) ∧ Ext (fun k => FL k ∨ FD k) w w' := by
  have HH := Lib.hid h
  have HD := Lib.hid hd
  have HR := Lib.hid hr
  have hbig := hok.big
  have hsf' := hok.sf
  have hff := hok.ff
  have hbc := hok.bcap
  have hn1 := hok.n1
  have hn2 := hok.n2
  have hring := hok.ring
  have hbase := Lg.base_le hok
  have hbl : L.base + L.buf.length = L.fin := hok.blen
  obtain ⟨vl, hb, k2, fb, f2⟩ := h
  have c4 := hb.cell (i := 4) rfl
  have c5 := hb.cell (i := 5) rfl
  have HDIS := Lib.hid hdis
  have hfl : ∀ {k : Nat}, k < w.heap.size → FL k → ¬ Fsh FD w k := fun {k} hk hF hx => hx.elim (fun h => hdis k hF h) (fun h => by omega)
  have KB := Lib.hid hb
  have nb : ¬ FD b := hdis b fb
  clear f2 k2 hb hr hdis hd
  have END : ∀ n, Hid (RLogAt (w.drewN n) b L bd FL ∧ RDiskAt (w.drewN n) bd D (Fsh FD w) ∧ Ext (fun k => FL k ∨ FD k) w (w.drewN n)) := fun n =>
    ⟨HH.out.ext (Ext.ofDrew w n) (fun _ _ _ => id), (HD.out.ext (Ext.ofDrew w n) (fun _ _ _ => id)).mono (fun _ _ h => .inl h), (Ext.refl _ w).drewN n⟩
  have HFf := fun w' => floor_calls L.firm (by omega) w'
  have HFs := fun w' => floor_calls L.start (by omega) w'
  obtain ⟨fa, hfa⟩ : ∃ x, L.firm / 54 * 54 = x := ⟨_, rfl⟩
  rw [hfa] at HFf
  have eb : L.start / 54 * 54 = L.base := rfl
  rw [eb] at HFs
  have HFf := Lib.hid HFf
  have HFs := Lib.hid HFs
  clear eb
  go_enter Try.func14, Try.ntmps14
  by_cases ht : t < (L.firm : Int)
  · have hb1 : decide (t < (L.firm : Int)) = true := by simpa using ht
    obtain ⟨rfl, rfl, rfl⟩ : c = 0 ∧ L' = L ∧ D' = D := by
      have := HR.out
      unfold Lg.flush at this
      rw [if_pos (.inl ht)] at this
      simp at this
      exact ⟨this.1.symm, this.2.1.symm, this.2.2.symm⟩
    go_wp2_with fail
    go_quiet (fail)
    go_wp2_with fail
    go_ret
    exact ⟨rfl, (END nq).out⟩
  have hb1 : decide (t < (L.firm : Int)) = false := by simpa using ht
  by_cases he : L.firm = L.fin
  · have hb2 : ((L.firm : Int) == (L.fin : Int)) = true := by simp [he]
    obtain ⟨rfl, rfl, rfl⟩ : c = 0 ∧ L' = L ∧ D' = D := by
      have := HR.out
      unfold Lg.flush at this
      rw [if_pos (.inr he)] at this
      simp at this
      exact ⟨this.1.symm, this.2.1.symm, this.2.2.symm⟩
    clear he
    go_wp2_with fail
    go_quiet (fail)
    go_wp2_with fail
    go_ret
    exact ⟨rfl, (END nq).out⟩
  have hb2 : ((L.firm : Int) == (L.fin : Int)) = false := by simp; omega
  have HE := Lib.hid he
  have HT := Lib.hid ht
  clear he ht
  go_wp2_with fail
  go_quiet (fail)
  go_wp2_with fail
  (with_reducible refine (HFf.out _).mono ?_)
  rintro e w1 ⟨rfl, rfl⟩
  go_wp2_with fail
  have C0 := fun w' (e : Ext FD w w') => (KB.out.ext e nb).cell (i := 0) rfl
  have C1 := fun w' (e : Ext FD w w') => (KB.out.ext e nb).cell (i := 1) rfl
  have C2 := fun w' (e : Ext FD w w') => (KB.out.ext e nb).cell (i := 2) rfl
  have C3 := fun w' (e : Ext FD w w') => (KB.out.ext e nb).cell (i := 3) rfl
  have C4 := fun w' (e : Ext FD w w') => (KB.out.ext e nb).cell (i := 4) rfl
  have C6 := fun w' (e : Ext FD w w') => (KB.out.ext e nb).cell (i := 6) rfl
  go_loopw [5] (fun v5 wr => ∃ (s i : Nat) (Di : Dk), s = i * 54 ∧ v5 = .int .i64 s ∧ L.base ≤ i * 54 ∧ i * 54 < L.fin + 54 ∧ RDiskAt wr bd Di (Fsh FD w) ∧ Di.Ok ∧ Di.soft.length + L.left i ≤ 1000000 ∧ Di.firm.length = D.firm.length ∧ Hid (L.writes (L.left i) i Di = L.writes (L.left (L.firm / 54)) (L.firm / 54) D) ∧ Ext FD w wr) (fun v5 _ => L.left ((intOf v5).toNat / 54))
  case atStart =>
    have := L.left_le hok (i := L.firm / 54) (by show L.start / 54 * 54 ≤ _; omega)
    exact ⟨fa, L.firm / 54, D, hfa.symm, by go_num, by show L.start / 54 * 54 ≤ _; omega, by omega, (HD.out.ext (Ext.ofDrew w nq) (fun _ _ _ => id)).mono (fun _ _ h => .inl h), hD, by omega, rfl, rfl, (Ext.refl _ w).drewN nq⟩
  case round =>
    obtain ⟨s, i, Di, hs, rfl, hib, hi54, hDi, hDok, hDs, hDl, hW, hE⟩ := hrel
    have KD := Lib.hid hDi
    have w1 : IntKind.i64.wrap ((s : Int) + 54) = (s : Int) + 54 := IntWalk.i64_in _ (by omega)
    have hW' := hW.out
    clear hW hDi
    by_cases hlt : i * 54 < L.fin
    · have hb3 : decide ((s : Int) < (L.fin : Int)) = true := by simp; omega
      have hb4 : s < L.fin := by omega
      obtain ⟨lo, hlo⟩ : ∃ x, i * 54 - L.base = x := ⟨_, rfl⟩
      have w2 : IntKind.i64.wrap ((s : Int) - (L.base : Int)) = (lo : Int) := by rw [show (s : Int) - (L.base : Int) = (lo : Int) by omega]; exact IntWalk.i64_in _ (by omega)
      have w3 : IntKind.i64.wrap ((lo : Int) + 54) = (lo : Int) + 54 := IntWalk.i64_in _ (by omega)
      obtain ⟨n, hpl⟩ : ∃ n, (L.part i).length = n := ⟨_, rfl⟩
      have hn : n = min 54 (L.buf.length - lo) := by rw [← hpl, ← hlo]; simp [Lg.part]
      have hmin : ∀ w, (Builtin.min_ #[3, 3] 3 #[.int .i64 ((lo : Int) + 54), .int .i64 (L.buf.length : Int)]).run Try.prog w = .ok (.int .i64 ((lo + n : Nat) : Int)) w := fun w => by
        by_cases hc : (L.buf.length : Int) < (lo : Int) + 54
        · have : ((lo + n : Nat) : Int) = L.buf.length := by omega
          simp [Builtin.min_, Builtin.min2, hc, this]
        · have : ((lo + n : Nat) : Int) = (lo : Int) + 54 := by omega
          simp [Builtin.min_, Builtin.min2, hc, this]
      obtain ⟨hi, hhi⟩ : ∃ x, lo + n = x := ⟨_, rfl⟩
      rw [hhi] at hmin
      have hlh : (lo : Int) ≤ hi := by omega
      have hhc : (hi : Int) ≤ L.buf.length := by omega
      have hex : (⟨L.buf.toArray⟩ : ByteArray).extract lo hi = ⟨(L.part i).toArray⟩ := by
        unfold Lg.part; rw [hlo]; exact bytes_part _ _ _ (by omega)
      have hsi : (s : Int) / 54 = (i : Int) := by omega
      have hwi : IntKind.i64.wrap (i : Int) = (i : Int) := IntWalk.i64_in _ (by omega)
      have hl0 : ¬ (lo : Int) < 0 := by omega
      have hl1 : ¬ (hi : Int) < 0 := by omega
      have hl2 : lo ≤ hi := by omega
      have hl3 : hi ≤ L.buf.length := by omega
      obtain ⟨j, hj⟩ : ∃ x, L.first + i % L.n = x := ⟨_, rfl⟩
      have hmod := Nat.mod_lt i (show 0 < L.n by omega)
      obtain ⟨c1, D1, hw1⟩ : ∃ c1 D1, Di.write (j : Int) (L.sect i) = (c1, D1) := ⟨_, _, rfl⟩
      have hnz : ¬ L.n = 0 := by omega
      have hmb : i % L.n ≤ 4096 := by omega
      have haw : IntKind.i64.wrap ((L.first : Int) + (i : Int).tmod (L.n : Int)) = (j : Int) := by
        rw [Int.tmod_eq_emod_of_nonneg (by omega), show (L.first : Int) + (i : Int) % (L.n : Int) = (j : Int) by omega]; exact IntWalk.i64_in _ (by omega)
      have CS : Hid (∀ w', Calls Try.prog 43 #[.int .i64 i, .string ⟨(L.part i).toArray⟩] w' fun e w'' => e = .returned (.string (L.sect i)) ∧ Ext NoB w' w'') := fun w' => rsector_calls i (by omega) (L.part i) (L.part_le i) w'
      have hwd : ∀ (W : World), RDiskAt W bd Di (Fsh FD w) → Calls Try.prog 37 #[.pointer (some ⟨bd, 0, none⟩), .int .i64 j, .string (L.sect i)] W fun e w' => e = .returned (.int .i64 c1) ∧ RDiskAt w' bd D1 (Fsh (Fsh FD w) W) ∧ Ext (Fsh FD w) W w' := fun W h =>
        rwrite_calls bd Di _ W h hDok (by have := Lg.left_more hlt; omega) j (by omega) (by omega) (L.sect i) (by rw [show (L.sect i).size = 64 from sec_size _ _ (L.part_le i)]; decide) c1 D1 hw1
      have HWD := Lib.hid hwd
      clear hwd
      have hE' := hE.drew
      have HSI := Lib.hid hs
      clear hs
      go_wp2_with (go_at_call 42; (with_reducible refine (HFs.out _).mono ?_); rintro e w9 ⟨rfl, rfl⟩)
      go_region_held3 (fun w' => Ext FD w w') (assumption) (first
        | (go_at_call 43; (with_reducible refine (CS.out _).mono ?_); rintro e w3 ⟨rfl, hb3⟩; have hE3 : Ext FD w w3 := hE'.trans hb3 (fun _ _ h => h.elim); have D3 := KD.out.ext ((Ext.refl NoB wr).drew.trans hb3 (fun _ _ h => h)) (fun _ _ _ => id))
        | (go_at_call 37; (with_reducible refine (HWD.out _ D3).mono ?_); rintro e w4 ⟨rfl, hD4, hE4⟩; have hE5 : Ext FD w w4 := hE3.fsh hE4))
      have KD4 := Lib.hid (hD4.mono (F' := Fsh FD w) (fun k _ h => h.elim id (fun h => .inr (Nat.le_trans hE3.size h))))
      obtain ⟨hO1, hO2, hO3⟩ : D1.Ok ∧ D1.firm.length = Di.firm.length ∧ D1.soft.length ≤ Di.soft.length + 1 := by
        have := Dk.write_Ok hDok (j : Int) (L.sect i) (by have := Lg.left_more hlt; omega)
        rw [hw1] at this; exact this
      have HO1 := Lib.hid hO1
      rw [Lg.left_more hlt, Lg.writes_succ, hj, hw1] at hW'
      have HW := Lib.hid hW'
      clear hW' hD4 hE4 D3 hE3 hb3 w3 hmin hw1 hO1 HWD
      by_cases hc0 : c1 = 0
      · subst hc0
        go_wp2_with fail
        go_roundw
        case rel => exact ⟨s + 54, i + 1, D1, by have := HSI.out; omega, by go_num, by omega, by omega, KD4.out, HO1.out, by have := Lg.left_more hlt; omega, by omega, HW.out, hE5⟩
        case measure => have := Lg.left_more hlt; have := HSI.out; have e1 : ((s : Int) + 54).toNat / 54 = i + 1 := by omega
                        have e2 : (s : Int).toNat / 54 = i := by omega
                        simp only [intOf, e1, e2]; omega
      · have hc1 : (c1 != 0) = true := by simp [hc0]
        obtain ⟨rfl, rfl, rfl⟩ : c = c1 ∧ L' = L ∧ D' = D1 := by
          have h1 := HR.out
          unfold Lg.flush at h1
          have h2 := HW.out
          rw [if_neg hc0] at h2
          rw [if_neg (fun h => h.elim (fun h => by have := HT.out; omega) HE.out), ← h2, if_pos hc0] at h1
          simp at h1
          exact ⟨h1.1.symm, h1.2.1.symm, h1.2.2.symm⟩
        have KL := Lib.hid (HH.out.ext hE5 (fun k _ h => HDIS.out k h))
        have KE := Lib.hid (hE5.mono (S' := fun k => FL k ∨ FD k) (fun _ _ h => .inr h))
        clear hc0
        go_wp2_with fail
        go_ret
        exact ⟨rfl, KL.out, KD4.out, KE.out⟩
    · have hb3 : decide ((s : Int) < (L.fin : Int)) = false := by simp; omega
      have hb4 : ¬ s < L.fin := by omega
      rw [Lg.left_none (by omega)] at hW'
      obtain ⟨c2, D2, hw2⟩ : ∃ c2 D2, Di.barrier = (c2, D2) := ⟨_, _, rfl⟩
      clear hs
      have HB := Lib.hid (rbarrier_calls bd Di _ _ KD.out hDok c2 D2 hw2)
      have HW := Lib.hid hW'
      have HB2 := Lib.hid hw2
      clear hW' hw2
      go_wp2_with fail
      refine HB.out.mono ?_
      rintro e w4 ⟨rfl, hD4, hE4⟩
      have hE5 : Ext FD w w4 := hE.fsh hE4
      have KD4 := Lib.hid hD4
      clear hD4 hE4
      by_cases hc0 : c2 = 0
      · subst hc0
        obtain ⟨rfl, rfl, rfl⟩ : c = 0 ∧ L' = { L with firm := L.fin } ∧ D' = D2 := by
          have h1 := HR.out
          unfold Lg.flush at h1
          have h2 : L.writes 0 i Di = _ := HW.out
          rw [if_neg (fun h => h.elim (fun h => by have := HT.out; omega) HE.out), ← h2] at h1
          simp only [Lg.writes, HB2.out] at h1
          simp at h1
          exact ⟨h1.1.symm, h1.2.1.symm, h1.2.2.symm⟩
        have hL5 := HH.out.ext hE5 (fun k _ h => HDIS.out k h)
        have c4 := C4 _ hE5
        have c5 : w4.cell? ⟨b, 5, none⟩ = some (.int .i64 L.firm) := by obtain ⟨_, hb, _⟩ := hL5; exact hb.cell rfl
        have r5 : w4.frozen? ⟨b, 5, none⟩ = false := by obtain ⟨_, hb, _⟩ := hL5; exact hb.fr 5
        have KL := Lib.hid (hL5.putFirm L.fin).1
        have KD5 := Lib.hid (KD4.out.ext ((Ext.refl (fun k => k = b) w4).setCell (p := ⟨b, 5, none⟩) (.int .i64 L.fin) (fun _ => rfl)) (fun k _ h e => by subst e; exact hfl (HH.out.lt) fb h))
        have KE := Lib.hid ((hE5.mono (S' := fun k => FL k ∨ FD k) (fun _ _ h => .inr h)).setCell (p := ⟨b, 5, none⟩) (.int .i64 L.fin) (fun _ => .inl fb))
        clear hL5 hE5
        go_wp2_with fail
        go_ret
        exact ⟨rfl, KL.out, KD5.out, KE.out⟩
      · have hc1 : (c2 == 0) = false := by simp [hc0]
        obtain ⟨rfl, rfl, rfl⟩ : c = c2 ∧ L' = L ∧ D' = D2 := by
          have h1 := HR.out
          unfold Lg.flush at h1
          have h2 : L.writes 0 i Di = _ := HW.out
          rw [if_neg (fun h => h.elim (fun h => by have := HT.out; omega) HE.out), ← h2] at h1
          simp only [Lg.writes, HB2.out] at h1
          rw [if_neg (by simp), if_pos hc0] at h1
          simp at h1
          exact ⟨h1.1.symm, h1.2.1.symm, h1.2.2.symm⟩
        have KL := Lib.hid (HH.out.ext hE5 (fun k _ h => HDIS.out k h))
        have KE := Lib.hid (hE5.mono (S' := fun k => FL k ∨ FD k) (fun _ _ h => .inr h))
        clear hc0
        go_wp2_with fail
        go_ret
        exact ⟨rfl, KL.out, KD4.out, KE.out⟩
end Go.Proofs.Ytdhklomnaodcnaa
