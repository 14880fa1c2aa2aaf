/- wal's Flush: the walk. -/
import Derived.Test.YtdhklomnaodcnaaFl
import Derived.Test.YtdhklomnaodcnaaDk2
import Derived.Test.YtdhklomnaodcnaaDk4
import Derived.Test.YtdhklomnaodcnaaClone
import Derived.Deep.DeepCutAuto
import Derived.Deep.CutBlock
import Derived.Deep.RegionHeld3
namespace Go.Proofs.Ytdhklomnaodcnaa
open Go.RowKit

/-- The window of the bytes that goes into sector number i. -/
theorem Own.part {w : World} {g cl : Nat} {buf : List UInt8} (h : Own w (.slice (some ⟨g, 0, none⟩) buf.length cl) 5 1 buf.length (bytesV buf)) (lo : Nat) :
    BytesAt w (some ⟨g, lo, none⟩) ((buf.drop lo).take 54) := by
  refine ⟨fun e => (by cases e), fun ad had i v hv => ?_⟩
  cases had
  rw [Addr.add_lit]
  have hv' : (bytesV buf)[lo + i]? = some (.int .u8 v.toNat) := by
    rw [List.getElem?_take] at hv
    split at hv
    · rw [List.getElem?_drop] at hv
      simp [bytesV, hv]
    · cases hv
  exact h.cell rfl hv'

set_option maxHeartbeats 4000000 in
set_option maxRecDepth 100000 in
theorem flush_calls (b bd : Nat) (L : Lg) (D : Dk) (FL FD : Nat → Prop) (w : World) (h : LogAt w b L bd FL) (hok : L.Ok) (hd : DiskAt w bd D FD) (hD : D.Ok) (hn : 0 < D.firm.length) (hsf : D.soft.length ≤ 990000) (hdis : ∀ k, FL k → ¬ FD k)
    (t : Int) (h0 : -9223372036854775808 ≤ t) (h1 : t ≤ 9223372036854775807) (c : Int) (L' : Lg) (D' : Dk) (hr : L.flush D t = (c, L', D')) :
    Calls Try.prog 13 #[.pointer (some ⟨b, 0, none⟩), .int .i64 t] w fun e w' => e = .returned (.int .i64 c) ∧ LogAt w' b L' bd FL ∧ DiskAt w' bd D' (Fsh FD w) ∧ Ext (fun k => FL k ∨ FD k) w w' := by
  have HH := Lib.hid h
  have HD := Lib.hid hd
  have HR := Lib.hid hr
  have hbig := hok.big
  have hsf' := hok.sf
  have hff := hok.ff
  have hbc := hok.bcap
  have hn1 := hok.n1
  have hn2 := hok.n2
  have hring := hok.ring
  have hbase := Lg.base_le hok
  have hbl : L.base + L.buf.length = L.fin := hok.blen
  obtain ⟨vb, vl, hb, k1, k2, fb, f1, f2, d⟩ := h
  have c4 := hb.cell (i := 4) rfl
  have c5 := hb.cell (i := 5) rfl
  have HDIS := Lib.hid hdis
  have hfl : ∀ {k : Nat}, k < w.heap.size → FL k → ¬ Fsh FD w k := fun {k} hk hF hx => hx.elim (fun h => hdis k hF h) (fun h => by omega)
  have KB := Lib.hid hb
  have K1 := Lib.hid k1
  have G1 := Lib.hid f1
  have nb : ¬ FD b := hdis b fb
  clear d f1 f2 k1 k2 hb hr hdis hd
  have END : ∀ n, Hid (LogAt (w.drewN n) b L bd FL ∧ DiskAt (w.drewN n) bd D (Fsh FD w) ∧ Ext (fun k => FL k ∨ FD k) w (w.drewN n)) := fun n =>
    ⟨HH.out.ext (Ext.ofDrew w n) (fun _ _ _ => id), (HD.out.ext (Ext.ofDrew w n) (fun _ _ _ => id)).mono (fun _ _ h => .inl h), (Ext.refl _ w).drewN n⟩
  go_enter Try.func13, Try.ntmps13
  by_cases ht : t < (L.firm : Int)
  · have hb1 : decide (t < (L.firm : Int)) = true := by simpa using ht
    obtain ⟨rfl, rfl, rfl⟩ : c = 0 ∧ L' = L ∧ D' = D := by
      have := HR.out
      unfold Lg.flush at this
      rw [if_pos (.inl ht)] at this
      simp at this
      exact ⟨this.1.symm, this.2.1.symm, this.2.2.symm⟩
    go_wp2_with fail
    go_quiet (fail)
    go_wp2_with fail
    go_ret
    exact ⟨rfl, (END nq).out⟩
  have hb1 : decide (t < (L.firm : Int)) = false := by simpa using ht
  by_cases he : L.firm = L.fin
  · have hb2 : ((L.firm : Int) == (L.fin : Int)) = true := by simp [he]
    obtain ⟨rfl, rfl, rfl⟩ : c = 0 ∧ L' = L ∧ D' = D := by
      have := HR.out
      unfold Lg.flush at this
      rw [if_pos (.inr he)] at this
      simp at this
      exact ⟨this.1.symm, this.2.1.symm, this.2.2.symm⟩
    clear he
    go_wp2_with fail
    go_quiet (fail)
    go_wp2_with fail
    go_ret
    exact ⟨rfl, (END nq).out⟩
  have hb2 : ((L.firm : Int) == (L.fin : Int)) = false := by simp; omega
  have HE := Lib.hid he
  have HT := Lib.hid ht
  clear he ht
  go_wp2_with fail
  go_quiet (fail)
  go_wp2_with fail
  obtain ⟨gb, cl, cur, rfl, _, _, hcl1, hcl2, _, _⟩ := K1.out.pos (by have := HE.out; omega)
  have C0 := fun w' (e : Ext FD w w') => (KB.out.ext e nb).cell (i := 0) rfl
  have C1 := fun w' (e : Ext FD w w') => (KB.out.ext e nb).cell (i := 1) rfl
  have C2 := fun w' (e : Ext FD w w') => (KB.out.ext e nb).cell (i := 2) rfl
  have C4 := fun w' (e : Ext FD w w') => (KB.out.ext e nb).cell (i := 4) rfl
  have C6 := fun w' (e : Ext FD w w') => (KB.out.ext e nb).cell (i := 6) rfl
  have C7 := fun w' (e : Ext FD w w') => (KB.out.ext e nb).cell (i := 7) rfl
  have CS : Hid (∀ w' i, L.base ≤ i * 54 → i * 54 < L.fin → ∀ lo n, i * 54 - L.base = lo → (L.part i).length = n → Ext FD w w' → Calls Try.prog 41 #[.int .i64 i, .slice (some ⟨gb, lo, none⟩) n (cl - lo)] w' fun e w'' => e = .returned (.string (L.sect i)) ∧ Below w'.heap.size w' w'') := by
    rintro w' i h1 h2 lo n rfl rfl e
    exact sector_calls i (by omega) (some ⟨gb, i * 54 - L.base, none⟩) _ (L.part i) (L.part_le i) w' ((K1.out.ext e (fun j hj => HDIS.out j (G1.out j hj).1)).part _)
  go_loopw [5] (fun v5 wr => ∃ (i : Nat) (Di : Dk), v5 = .int .i64 i ∧ L.base ≤ i * 54 ∧ i * 54 < L.fin + 54 ∧ DiskAt wr bd Di (Fsh FD w) ∧ Di.Ok ∧ Di.soft.length + L.left i ≤ 1000000 ∧ Di.firm.length = D.firm.length ∧ Hid (L.writes (L.left i) i Di = L.writes (L.left (L.firm / 54)) (L.firm / 54) D) ∧ Ext FD w wr) (fun v5 _ => L.left (intOf v5).toNat)
  case atStart =>
    have := L.left_le hok (i := L.firm / 54) (by show L.start / 54 * 54 ≤ _; omega)
    exact ⟨L.firm / 54, D, by go_num, by show L.start / 54 * 54 ≤ _; omega, by omega, (HD.out.ext (Ext.ofDrew w nq) (fun _ _ _ => id)).mono (fun _ _ h => .inl h), hD, by omega, rfl, rfl, (Ext.refl _ w).drewN nq⟩
  case round =>
    obtain ⟨i, Di, rfl, hib, hi54, hDi, hDok, hDs, hDl, hW, hE⟩ := hrel
    have KD := Lib.hid hDi
    have w1 : IntKind.i64.wrap ((i : Int) * 54) = (i : Int) * 54 := IntWalk.i64_in _ (by omega)
    have hW' := hW.out
    clear hW hDi
    by_cases hlt : i * 54 < L.fin
    · have hb3 : decide ((i : Int) * 54 < (L.fin : Int)) = true := by simp; omega
      obtain ⟨lo, hlo⟩ : ∃ x, i * 54 - L.base = x := ⟨_, rfl⟩
      have w2 : IntKind.i64.wrap ((i : Int) * 54 - (L.base : Int)) = (lo : Int) := by rw [show (i : Int) * 54 - (L.base : Int) = (lo : Int) by omega]; exact IntWalk.i64_in _ (by omega)
      have w3 : IntKind.i64.wrap ((lo : Int) + 54) = (lo : Int) + 54 := IntWalk.i64_in _ (by omega)
      obtain ⟨n, hpl⟩ : ∃ n, (L.part i).length = n := ⟨_, rfl⟩
      have hn : n = min 54 (L.buf.length - lo) := by rw [← hpl, ← hlo]; simp [Lg.part]
      have hmin : ∀ w, (Builtin.min_ #[3, 3] 3 #[.int .i64 ((lo : Int) + 54), .int .i64 (L.buf.length : Int)]).run Try.prog w = .ok (.int .i64 ((lo + n : Nat) : Int)) w := fun w => by
        by_cases hc : (L.buf.length : Int) < (lo : Int) + 54
        · have : ((lo + n : Nat) : Int) = L.buf.length := by omega
          simp [Builtin.min_, Builtin.min2, hc, this]
        · have : ((lo + n : Nat) : Int) = (lo : Int) + 54 := by omega
          simp [Builtin.min_, Builtin.min2, hc, this]
      obtain ⟨hi, hhi⟩ : ∃ x, lo + n = x := ⟨_, rfl⟩
      rw [hhi] at hmin
      have hlh : (lo : Int) ≤ hi := by omega
      have hhc : (hi : Int) ≤ cl := by omega
      have hlc : ¬ cl = lo := by omega
      obtain ⟨j, hj⟩ : ∃ x, L.first + i % L.n = x := ⟨_, rfl⟩
      have hmod := Nat.mod_lt i (show 0 < L.n by omega)
      obtain ⟨c1, D1, hw1⟩ : ∃ c1 D1, Di.write (j : Int) (L.sect i) = (c1, D1) := ⟨_, _, rfl⟩
      have hnz : ¬ L.n = 0 := by omega
      have hmb : i % L.n ≤ 4096 := by omega
      have haw : IntKind.i64.wrap ((L.first : Int) + (i : Int).tmod (L.n : Int)) = (j : Int) := by
        rw [Int.tmod_eq_emod_of_nonneg (by omega), show (L.first : Int) + (i : Int) % (L.n : Int) = (j : Int) by omega]; exact IntWalk.i64_in _ (by omega)
      have hpl' : (L.part i).length = hi - lo := by omega
      have hwd : ∀ (W : World), DiskAt W bd Di (Fsh FD w) → Calls Try.prog 35 #[.pointer (some ⟨bd, 0, none⟩), .int .i64 j, .string (L.sect i)] W fun e w' => e = .returned (.int .i64 c1) ∧ DiskAt w' bd D1 (Fsh (Fsh FD w) W) ∧ Ext (Fsh FD w) W w' := fun W h =>
        write_calls bd Di _ W h hDok (by have := Lg.left_more hlt; omega) j (by omega) (by omega) (L.sect i) (by rw [show (L.sect i).size = 64 from sec_size _ _ (L.part_le i)]; decide) c1 D1 hw1
      have HWD := Lib.hid hwd
      clear hwd
      have hE' := hE.drew
      go_upto_region 10 with (fail)
      go_region_held3 (fun w' => Ext FD w w') (assumption) (first
        | (go_at_call 41; (with_reducible refine (CS.out _ i hib hlt _ _ hlo hpl' (by assumption)).mono ?_); rintro e w3 ⟨rfl, hb3⟩; have hE3 : Ext FD w w3 := Ext.bel hE' hb3; have D3 := KD.out.ext ((Ext.refl NoB wr).drew.bel hb3) (fun _ _ _ => id))
        | (go_at_call 35; (with_reducible refine (HWD.out _ D3).mono ?_); rintro e w4 ⟨rfl, hD4, hE4⟩; have hE5 : Ext FD w w4 := hE3.fsh hE4))
      have KD4 := Lib.hid (hD4.mono (F' := Fsh FD w) (fun k _ h => h.elim id (fun h => .inr (Nat.le_trans hE3.size h))))
      obtain ⟨hO1, hO2, hO3⟩ : D1.Ok ∧ D1.firm.length = Di.firm.length ∧ D1.soft.length ≤ Di.soft.length + 1 := by
        have := Dk.write_Ok hDok (j : Int) (L.sect i) (by have := Lg.left_more hlt; omega)
        rw [hw1] at this; exact this
      have HO1 := Lib.hid hO1
      rw [Lg.left_more hlt, Lg.writes_succ, hj, hw1] at hW'
      have HW := Lib.hid hW'
      clear hW' hD4 hE4 D3 hE3 hb3 w3 hmin hw1 hO1 HWD
      by_cases hc0 : c1 = 0
      · subst hc0
        go_wp2_with fail
        go_roundw
        case rel => exact ⟨i + 1, D1, by go_num, by omega, by omega, KD4.out, HO1.out, by have := Lg.left_more hlt; omega, by omega, HW.out, hE5⟩
        case measure => have := Lg.left_more hlt; simp [intOf]; omega
      · have hc1 : (c1 != 0) = true := by simp [hc0]
        obtain ⟨rfl, rfl, rfl⟩ : c = c1 ∧ L' = L ∧ D' = D1 := by
          have h1 := HR.out
          unfold Lg.flush at h1
          have h2 := HW.out
          rw [if_neg hc0] at h2
          rw [if_neg (fun h => h.elim (fun h => by have := HT.out; omega) HE.out), ← h2, if_pos hc0] at h1
          simp at h1
          exact ⟨h1.1.symm, h1.2.1.symm, h1.2.2.symm⟩
        have KL := Lib.hid (HH.out.ext hE5 (fun k _ h => HDIS.out k h))
        have KE := Lib.hid (hE5.mono (S' := fun k => FL k ∨ FD k) (fun _ _ h => .inr h))
        clear hc0
        go_wp2_with fail
        go_ret
        exact ⟨rfl, KL.out, KD4.out, KE.out⟩
    · have hb3 : decide ((i : Int) * 54 < (L.fin : Int)) = false := by simp; omega
      rw [Lg.left_none (by omega)] at hW'
      obtain ⟨c2, D2, hw2⟩ : ∃ c2 D2, Di.barrier = (c2, D2) := ⟨_, _, rfl⟩
      have HB := Lib.hid (barrier_calls bd Di _ _ KD.out hDok (by omega) c2 D2 hw2)
      have HW := Lib.hid hW'
      have HB2 := Lib.hid hw2
      clear hW' hw2
      go_wp2_with fail
      refine HB.out.mono ?_
      rintro e w4 ⟨rfl, hD4, hE4⟩
      have hE5 : Ext FD w w4 := hE.fsh hE4
      have KD4 := Lib.hid hD4
      clear hD4 hE4
      by_cases hc0 : c2 = 0
      · subst hc0
        obtain ⟨rfl, rfl, rfl⟩ : c = 0 ∧ L' = { L with firm := L.fin } ∧ D' = D2 := by
          have h1 := HR.out
          unfold Lg.flush at h1
          have h2 : L.writes 0 i Di = _ := HW.out
          rw [if_neg (fun h => h.elim (fun h => by have := HT.out; omega) HE.out), ← h2] at h1
          simp only [Lg.writes, HB2.out] at h1
          simp at h1
          exact ⟨h1.1.symm, h1.2.1.symm, h1.2.2.symm⟩
        have hL5 := HH.out.ext hE5 (fun k _ h => HDIS.out k h)
        have c4 := C4 _ hE5
        have c5 : w4.cell? ⟨b, 5, none⟩ = some (.int .i64 L.firm) := by obtain ⟨_, _, hb, _⟩ := hL5; exact hb.cell rfl
        have r5 : w4.frozen? ⟨b, 5, none⟩ = false := by obtain ⟨_, _, hb, _⟩ := hL5; exact hb.fr 5
        have KL := Lib.hid (hL5.putFirm L.fin).1
        have KD5 := Lib.hid (KD4.out.ext ((Ext.refl (fun k => k = b) w4).setCell (p := ⟨b, 5, none⟩) (.int .i64 L.fin) (fun _ => rfl)) (fun k _ h e => by subst e; exact hfl (HH.out.lt) fb h))
        have KE := Lib.hid ((hE5.mono (S' := fun k => FL k ∨ FD k) (fun _ _ h => .inr h)).setCell (p := ⟨b, 5, none⟩) (.int .i64 L.fin) (fun _ => .inl fb))
        clear hL5 hE5
        go_wp2_with fail
        go_ret
        exact ⟨rfl, KL.out, KD5.out, KE.out⟩
      · have hc1 : (c2 != 0) = true := by simp [hc0]
        obtain ⟨rfl, rfl, rfl⟩ : c = c2 ∧ L' = L ∧ D' = D2 := by
          have h1 := HR.out
          unfold Lg.flush at h1
          have h2 : L.writes 0 i Di = _ := HW.out
          rw [if_neg (fun h => h.elim (fun h => by have := HT.out; omega) HE.out), ← h2] at h1
          simp only [Lg.writes, HB2.out] at h1
          rw [if_neg (by simp), if_pos hc0] at h1
          simp at h1
          exact ⟨h1.1.symm, h1.2.1.symm, h1.2.2.symm⟩
        have KL := Lib.hid (HH.out.ext hE5 (fun k _ h => HDIS.out k h))
        have KE := Lib.hid (hE5.mono (S' := fun k => FL k ∨ FD k) (fun _ _ h => .inr h))
        clear hc0
        go_wp2_with fail
        go_ret
        exact ⟨rfl, KL.out, KD4.out, KE.out⟩
end Go.Proofs.Ytdhklomnaodcnaa
