/- wal's wipe: the walk. -/
import Derived.Test.YtdhklomnaodcnaaWp
import Derived.Test.YtdhklomnaodcnaaKept
import Derived.Test.YtdhklomnaodcnaaFlush
import Derived.Test.YtdhklomnaodcnaaDk1
import Derived.Deep.RegionHeld3
namespace Go.Proofs.Ytdhklomnaodcnaa
open Go.RowKit

set_option maxHeartbeats 4000000 in
set_option maxRecDepth 100000 in
theorem wipe_calls (b bd : Nat) (L : Lg) (D : Dk) (FL FD : Nat → Prop) (w : World) (h : LogAt w b L bd FL) (hok : L.Ok) (hd : DiskAt w bd D FD) (hD : D.Ok) (hdn : D.down = false) (hfu : D.fuel = -1) (hring : L.first + L.n ≤ D.firm.length) (hsf : D.soft.length ≤ 900000) (hdis : ∀ k, FL k → ¬ FD k) :
    Calls Try.prog 50 #[.pointer (some ⟨b, 0, none⟩)] w fun e w' => e = .returned (.int .i64 0) ∧ LogAt w' b L bd FL ∧ DiskAt w' bd (L.wipes L.n 0 D).flat (Fsh FD w) ∧ Ext FD w w' := by
  have HH := Lib.hid h
  have HD := Lib.hid hd
  have HDIS := Lib.hid hdis
  have hbig := hok.big
  have hsf' := hok.sf
  have hff := hok.ff
  have hbc := hok.bcap
  have hn1 := hok.n1
  have hn2 := hok.n2
  have hlen := hD.len
  have hbase := Lg.base_le hok
  have hbl : L.base + L.buf.length = L.fin := hok.blen
  have hb54 : L.base / 54 * 54 = L.base := by show L.start / 54 * 54 / 54 * 54 = L.start / 54 * 54; omega
  have hcnt : L.count = (L.buf.length + 53) / 54 := rfl
  have hcn := Lg.count_le hok
  obtain ⟨vb, vl, hb, k1, k2, fb, f1, f2, d⟩ := h
  obtain ⟨bb, cl, hvb, hcl1, hcl2⟩ := k1.shape
  rw [hvb] at hb k1 f1
  have KB := Lib.hid hb
  have K1 := Lib.hid k1
  have G1 := Lib.hid f1
  have nb : ¬ FD b := hdis b fb
  have C0 := fun w' (e : Ext FD w w') => (KB.out.ext e nb).cell (i := 0) rfl
  have C1 := fun w' (e : Ext FD w w') => (KB.out.ext e nb).cell (i := 1) rfl
  have C2 := fun w' (e : Ext FD w w') => (KB.out.ext e nb).cell (i := 2) rfl
  have C6 := fun w' (e : Ext FD w w') => (KB.out.ext e nb).cell (i := 6) rfl
  have C7 := fun w' (e : Ext FD w w') => (KB.out.ext e nb).cell (i := 7) rfl
  have N2 := fun w' (e : Ext NoB w w') => C2 w' e.no
  have N6 := fun w' (e : Ext NoB w w') => C6 w' e.no
  have N7 := fun w' (e : Ext NoB w w') => C7 w' e.no
  have hnz : ¬ L.n = 0 := by omega
  clear d f1 f2 k1 k2 hb hd hdis hvb
  have hmk := fun w => run_makeMap (P := Try.prog) 125 w
  have M0 : Hid (KeptAt (w.alloc (.map #[] 0)) w.heap.size []) := by
    have := (Go.MapKept.heap_alloc w (.map #[] 0)).1
    exact this
  have E0 := Lib.hid ((Ext.refl NoB w).alloc (.map #[] 0))
  obtain ⟨g, hg⟩ : ∃ g, w.heap.size = g := ⟨_, rfl⟩
  rw [hg] at M0
  go_enter Try.func50, Try.ntmps50
  go_wp2_with fail
  obtain ⟨W0, hW0⟩ : ∃ W, w.alloc (.map #[] 0) = W := ⟨_, rfl⟩
  rw [hW0] at M0 E0 ⊢
  have HG := Lib.hid hg
  clear hmk hg hW0
  go_loopw [4] (fun v4 wr => ∃ (s t : Nat), v4 = .int .i64 s ∧ s = 54 * t ∧ t ≤ L.count ∧ KeptAt wr g (L.held t) ∧ Ext NoB w wr) (fun v4 _ => L.buf.length + 54 - (intOf v4).toNat)
  case atStart => exact ⟨0, 0, rfl, rfl, Nat.zero_le _, M0.out, E0.out⟩
  case round =>
    obtain ⟨s, t, rfl, hs, htc, hM, hE⟩ := hrel
    have hEF : Ext FD w wr := hE.no
    have w1 : IntKind.i64.wrap ((s : Int) + 54) = (s : Int) + 54 := IntWalk.i64_in _ (by omega)
    by_cases hlt : s < L.buf.length
    · have hb3 : decide ((s : Int) < (L.buf.length : Int)) = true := by simp; omega
      obtain ⟨q, hq⟩ : ∃ x, L.base / 54 = x := ⟨_, rfl⟩
      obtain ⟨k, hk⟩ : ∃ x, q + t = x := ⟨_, rfl⟩
      obtain ⟨r, hr⟩ : ∃ x, k % L.n = x := ⟨_, rfl⟩
      have hqi : (L.base : Int) / 54 = (q : Int) := by omega
      have hsi : (s : Int) / 54 = (t : Int) := by omega
      have hwq : IntKind.i64.wrap (q : Int) = (q : Int) := IntWalk.i64_in _ (by omega)
      have hwt : IntKind.i64.wrap (t : Int) = (t : Int) := IntWalk.i64_in _ (by omega)
      have hwk : IntKind.i64.wrap ((q : Int) + (t : Int)) = (k : Int) := by rw [show (q : Int) + (t : Int) = (k : Int) by omega]; exact IntWalk.i64_in _ (by omega)
      have hrm : (k : Int) % (L.n : Int) = (r : Int) := by omega
      have hrt : (k : Int).tmod (L.n : Int) = (r : Int) := by rw [Int.tmod_eq_emod_of_nonneg (by omega)]; exact hrm
      have htn : t < L.n := by omega
      have hnew : (L.held t).lookup r = none := by rw [← hr, ← hk, ← hq]; exact L.held_new htn
      have hsucc : L.held (t + 1) = L.held t ++ [(r, L.sect k)] := by rw [L.held_succ, hq, hk, hr]
      obtain ⟨gb, cl', cur, hv, _, _, _, _, _, _⟩ := K1.out.pos (by omega)
      cases hv
      have hlo : k * 54 - L.base = s := by omega
      have CS : Hid (∀ w', Ext FD w w' → Calls Try.prog 41 #[.int .i64 k, .slice (some ⟨gb, s, none⟩) (L.part k).length (cl - s)] w' fun e w'' => e = .returned (.string (L.sect k)) ∧ Below w'.heap.size w' w'') := by
        intro w' e
        have := sector_calls k (by omega) (some ⟨gb, k * 54 - L.base, none⟩) (cl - s) (L.part k) (L.part_le k) w' ((K1.out.ext e (fun j hj => HDIS.out j (G1.out j hj).1)).part _)
        rw [hlo] at this
        exact this
      obtain ⟨n, hpl⟩ : ∃ n, (L.part k).length = n := ⟨_, rfl⟩
      have hn : n = min 54 (L.buf.length - s) := by rw [← hpl, ← hlo]; simp [Lg.part]
      obtain ⟨hi, hhi⟩ : ∃ x, s + n = x := ⟨_, rfl⟩
      have hmin : ∀ w, (Builtin.min_ #[3, 3] 3 #[.int .i64 ((s : Int) + 54), .int .i64 (L.buf.length : Int)]).run Try.prog w = .ok (.int .i64 (hi : Int)) w := fun w => by
        by_cases hc : (L.buf.length : Int) < (s : Int) + 54
        · have : (hi : Int) = L.buf.length := by omega
          simp [Builtin.min_, Builtin.min2, hc, this]
        · have : (hi : Int) = (s : Int) + 54 := by omega
          simp [Builtin.min_, Builtin.min2, hc, this]
      have hlh : (s : Int) ≤ hi := by omega
      have hhc : (hi : Int) ≤ cl := by omega
      have hlc : ¬ cl = s := by omega
      rw [show (L.part k).length = hi - s by omega] at CS
      have hE' : Ext NoB w wr.drew := hE.drew
      have HS := Lib.hid hs
      have HN := Lib.hid hnew
      have HU := Lib.hid hsucc
      have HM := Lib.hid hM
      clear hs hq hk hr hnew hsucc hM hn hpl hhi hlo
      go_wp2_with fail
      go_region_held3 (fun w' => Ext NoB w w') (first | assumption) (first
        | (go_at_call 41; (with_reducible refine (CS.out _ (Ext.no hE')).mono ?_); rintro e w3 ⟨rfl, hb3⟩; have hE3 : Ext NoB w w3 := Ext.bel hE' hb3; have M3 := HM.out.ext ((Ext.refl NoB wr).drew.bel hb3) id; have hU := M3.update Try.underlying125 Try.underlying3 r (L.sect k) HN.out; have hE4 : Ext NoB w (World.kept w3 g (L.held t ++ [(r, L.sect k)])) := Ext.kept hE3 (fun h => absurd h (by have := HG.out; omega))))
      have HE4 := Lib.hid hE4
      have M4 : Hid (KeptAt (World.kept w3 g (L.held t ++ [(r, L.sect k)])) g (L.held t ++ [(r, L.sect k)])) := M3.put _
      rw [← HU.out] at M4 HE4 ⊢
      obtain ⟨w4, hw4⟩ : ∃ x, World.kept w3 g (L.held (t + 1)) = x := ⟨_, rfl⟩
      rw [hw4] at M4 HE4 ⊢
      clear hE4 hU M3 hE3 hb3 hw4 hmin
      go_wp2_with fail
      go_roundw
      case rel => exact ⟨s + 54, t + 1, by go_num, by have := HS.out; omega, by have := HS.out; omega, M4.out, HE4.out⟩
      case measure => simp [intOf]; omega
    · have hb3 : decide ((s : Int) < (L.buf.length : Int)) = false := by simp; omega
      obtain rfl : t = L.count := by omega
      clear hs htc
      obtain ⟨bk, hbk⟩ : ∃ x, blank = x := ⟨_, rfl⟩
      have HBK := Lib.hid hbk
      have HR := Lib.hid (fun w => Try.strings_Repeat ⟨#[0]⟩ 64 w (by omega) (by show 1 * _ ≤ _; omega))
      rw [show (⟨(Lib.repeatL (⟨#[0]⟩ : ByteArray).data.toList 64).toArray⟩ : ByteArray) = bk by rw [← hbk]; show (⟨(Lib.repeatL [0] 64).toArray⟩ : ByteArray) = _; rw [repeatL_zero]; rfl] at HR
      have HM := Lib.hid hM
      clear hbk hM
      go_wp2_with fail
      refine (HR.out _).mono ?_
      rintro e w1 ⟨rfl, hb1⟩
      have E1 : Ext NoB w w1 := hE.bel hb1
      have hg1 : g < w1.heap.size := Nat.lt_of_lt_of_le HM.out.lt hb1.size
      have M1 : KeptAt w1 g (L.held L.count) := HM.out.ext ((Ext.refl NoB wr).bel hb1) id
      have hg0 : w.heap.size ≤ g := Nat.le_of_eq HG.out
      have E1F : Ext FD w w1 := E1.no
      obtain ⟨F0, hF0⟩ : ∃ F : Nat → Prop, F = fun k => FD k ∧ k < w.heap.size := ⟨_, rfl⟩
      have hF1 : ∀ k, F0 k → FD k ∧ k < w.heap.size := fun k h => by rw [hF0] at h; exact h
      have D1 : DiskAt w1 bd D F0 := (HD.out.mono (fun k hk h => by rw [hF0]; exact ⟨h, hk⟩)).ext E1 (fun _ _ _ => id)
      have HF1 := Lib.hid hF1
      have HM1 := Lib.hid M1
      have HE1 := Lib.hid E1
      have HD1 := Lib.hid D1
      have UP : Hid (∀ w', Ext F0 w1 w' → Ext FD w w') := fun w' e => E1F.trans e (fun k _ h => (HF1.out k h).1)
      have NG : ∀ k, k = g → ¬ Fsh F0 w1 k := fun k e h => by
        subst e
        rcases h with h | h
        · have := (HF1.out _ h).2; omega
        · omega
      have HNG := Lib.hid NG
      clear hF0 hF1 M1 E1 D1 hb1 hE HM NG
      go_wp2_with fail
      go_loopw [59] (fun v59 wr => ∃ (i : Nat) (Di : Dk), v59 = .int .i64 i ∧ i ≤ L.n ∧ DiskAt wr bd Di (Fsh F0 w1) ∧ Di.Ok ∧ Di.down = false ∧ Di.fuel = -1 ∧ Di.firm.length = D.firm.length ∧ Di.soft.length ≤ D.soft.length + i ∧ Hid (L.wipes (L.n - i) i Di = L.wipes L.n 0 D) ∧ Ext F0 w1 wr) (fun v59 _ => L.n - (intOf v59).toNat)
      case atStart => exact ⟨0, D, rfl, Nat.zero_le _, HD1.out.mono (fun _ _ h => .inl h), hD, hdn, hfu, rfl, Nat.le_refl _, rfl, Ext.refl _ _⟩
      case round =>
        obtain ⟨i, Di, rfl, hin, hDi, hDok, hDd, hDf, hDl, hDs, hW, hEr⟩ := hrel
        have KD := Lib.hid hDi
        have KDd := Lib.hid hDd
        have KDf := Lib.hid hDf
        have hE : Ext FD w wr := UP.out _ hEr
        have HEr := Lib.hid hEr
        clear hDi hDd hDf hEr
        by_cases hlt : i < L.n
        · have hltb : decide ((i : Int) < (L.n : Int)) = true := by simp; omega
          obtain ⟨j, hj⟩ : ∃ x, L.first + i = x := ⟨_, rfl⟩
          have w1' : IntKind.i64.wrap ((L.first : Int) + (i : Int)) = (j : Int) := by rw [show (L.first : Int) + (i : Int) = (j : Int) by omega]; exact IntWalk.i64_in _ (by omega)
          have w2 : IntKind.i64.wrap ((i : Int) + 1) = (i : Int) + 1 := IntWalk.i64_in _ (by omega)
          obtain ⟨sd, hsd⟩ : ∃ x, Di.seen.getD j ⟨#[]⟩ = x := ⟨_, rfl⟩
          have hW' : L.wipes (L.n - i) i Di = L.wipes L.n 0 D := hW.out
          rw [show L.n - i = (L.n - (i + 1)) + 1 by omega, Lg.wipes_succ, hj, hsd] at hW'
          obtain ⟨v, hv⟩ : ∃ x, L.want i = x := ⟨_, rfl⟩
          have hv64 : v.size = 64 := by rw [← hv]; exact L.want_size i
          rw [hv] at hW'
          have HRd := Lib.hid (fun m => read_calls bd Di _ (wr.drewN m) (KD.out.ext (Ext.ofDrew wr m) (fun _ _ _ => id)) hDok j (by omega) (by omega) sd 0 (by rw [Dk.read_in KDd.out (by omega), hsd]))
          have HWr := Lib.hid (fun (W : World) (hW : DiskAt W bd Di (Fsh F0 w1)) => write_calls bd Di _ W hW hDok (by omega) j (by omega) (by omega) v (by omega) 0 (Di.put j v) (Dk.write_put KDd.out KDf.out (by omega) hv64))
          have hOk := Dk.write_Ok hDok (j : Int) v (by omega)
          rw [Dk.write_put KDd.out KDf.out (by omega) hv64] at hOk
          have HO := Lib.hid hOk
          have hlk := (HM1.out.ext HEr.out (fun h => HNG.out g rfl (.inl h))).lookup Try.underlying125 Try.underlying3 (Try.zeroValue9 wr) i
          have HW := Lib.hid hW'
          clear hW hW' hsd hOk
          have hres : (∃ x, (L.held L.count).lookup i = some x ∧ x = v) ∨ ((L.held L.count).lookup i = none ∧ bk = v) := by
            rcases hl : (L.held L.count).lookup i with _ | x
            · exact .inr ⟨rfl, by rw [← hv]; unfold Lg.want; rw [hl]; exact HBK.out.symm⟩
            · exact .inl ⟨x, rfl, by rw [← hv]; unfold Lg.want; rw [hl]; rfl⟩
          clear hv hj
          rcases hres with ⟨x, hl, e⟩ | ⟨hl, e⟩
          all_goals
            rw [hl] at hlk
            clear hl
            have e' := e.symm
            clear e
            subst e'
            go_wp2_with fail
            go_quiet ((go_at_call 31; exact quiet_w (HRd.out _)))
            have hEq : Ext FD w (wr.drewN nq) := hE.drewN nq
            have hEr2 := Lib.hid (HEr.out.drewN nq)
            have D2 := Lib.hid (KD.out.ext (Ext.ofDrew wr nq) (fun _ _ _ => id))
            obtain ⟨wq, hwq⟩ : ∃ x, wr.drewN nq = x := ⟨_, rfl⟩
            rw [hwq] at hEq hEr2 D2 ⊢
            clear hwq hE
            by_cases heq : sd = v
            · have hW' := HW.out
              rw [if_pos heq] at hW'
              have HW2 := Lib.hid hW'
              have hb1 : (sd == v) = true := (Go.MapKept.bytes_beq sd v).2 heq
              clear HW hW' HWr HO HRd hlk
              have e' := heq
              clear heq
              subst e'
              go_wp2_with fail
              go_roundw
              case rel => exact ⟨i + 1, Di, by go_num, by omega, D2.out, hDok, KDd.out, KDf.out, hDl, by omega, HW2.out, hEr2.out⟩
              case measure => simp [intOf]; omega
            · have hW' := HW.out
              rw [if_neg heq] at hW'
              have HW2 := Lib.hid hW'
              have hb1 : (sd == v) = false := by
                cases h : (sd == v) with
                | false => rfl
                | true => exact absurd ((Go.MapKept.bytes_beq sd v).1 h) heq
              have hb3 : (sd.toList == v.toList) = false := by
                rw [beq_eq_false_iff_ne]
                intro h
                rw [Go.ByteArray.toList_eq, Go.ByteArray.toList_eq] at h; exact heq (ByteArray.ext (Array.ext' h))
              clear HW hW' HRd hlk
              go_wp2_with fail
              go_still_tail 11, (by kernel_rfl)
              change wpList _ _ _ _ _ wq.drew
              go_wp2_with fail
              refine (HWr.out _ (D2.out.ext (Ext.ofDrew wq 1) (fun _ _ _ => id))).mono ?_
              rintro e w5 ⟨rfl, hD5, hE6⟩
              have hE7 := Lib.hid (hEr2.out.drew.fsh hE6)
              have D5 := Lib.hid (hD5.mono (F' := Fsh F0 w1) (fun k _ h => h.elim id (fun h => .inr (Nat.le_trans hEr2.out.size h))))
              have hE8 := UP.out _ hE7.out
              clear hD5 hE6 HWr hEq
              go_wp2_with fail
              go_roundw
              case rel => exact ⟨i + 1, Di.put j v, by go_num, by omega, D5.out, HO.out.1, KDd.out, Dk.put_free KDf.out _ _, by have := HO.out.2.1; omega, by have := HO.out.2.2; omega, HW2.out, hE7.out⟩
              case measure => simp [intOf]; omega
        · have hltb : decide ((i : Int) < (L.n : Int)) = false := by simp; omega
          have hin' : i = L.n := by omega
          have hW' : L.wipes (L.n - i) i Di = L.wipes L.n 0 D := hW.out
          rw [show L.n - i = 0 by omega] at hW'
          have HW : Hid (Di = L.wipes L.n 0 D) := hW'
          have HB := Lib.hid (barrier_calls bd Di _ _ KD.out hDok (by omega) 0 Di.flat (Dk.barrier_flat KDd.out KDf.out))
          clear hW hW' hin'
          go_wp2_with fail
          refine HB.out.mono ?_
          rintro e w5 ⟨rfl, hD5, hE6⟩
          have hE7 := Lib.hid (HEr.out.fsh hE6)
          rw [HW.out] at hD5
          have D5 := Lib.hid (hD5.mono (F' := Fsh FD w) (fun k _ h => h.elim (fun h => .inl (HF1.out _ h).1) (fun h => .inr (Nat.le_trans HE1.out.size h))))
          have hE8 := Lib.hid (UP.out _ hE7.out)
          clear hD5 hE6
          go_wp2_with fail
          go_ret
          exact ⟨rfl, HH.out.ext hE8.out (fun k _ h => HDIS.out k h), D5.out, hE8.out⟩
end Go.Proofs.Ytdhklomnaodcnaa
