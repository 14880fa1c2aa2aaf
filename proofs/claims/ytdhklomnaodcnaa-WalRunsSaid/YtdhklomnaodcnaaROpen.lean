/- jettyref07's Open: the walk. -/
import Derived.Test.YtdhklomnaodcnaaOpenW
import Derived.Test.YtdhklomnaodcnaaRWipe
import Derived.Test.YtdhklomnaodcnaaLoad
import Derived.Test.YtdhklomnaodcnaaLg3
import Derived.StillTailTactics
import Derived.Deep.RegionHeldLaw
import Derived.Deep.CutBlock
import Derived.Deep.DeepCutAuto
import Derived.Deep.LoopGhost
namespace Go.Proofs.Ytdhklomnaodcnaa
open Go.RowKit

theorem ba_join1 (l1 : List UInt8) (r : ByteArray) : (⟨l1.toArray⟩ : ByteArray) ++ r = ⟨(l1 ++ r.data.toList).toArray⟩ := by
  apply ByteArray.ext
  simp [ByteArray.data_append]

set_option maxHeartbeats 8000000 in
set_option maxRecDepth 100000 in
theorem ropen_calls (bd : Nat) (S : List ByteArray) (FD : Nat → Prop) (w : World) (hd : RDiskAt w bd (Dk.fresh S) FD) (hD : (Dk.fresh S).Ok) (first n start : Nat) (hr : RingOk S.length first n) (h54 : 54 ≤ start) (h40 : start ≤ 1099511627776) :
    Calls Try.prog 25 #[.pointer (some ⟨bd, 0, none⟩), .int .i64 first, .int .i64 n, .int .i64 start] w fun e w' => ∃ bl FL, e = .returned (.tuple #[.pointer (some ⟨bl, 0, none⟩), .int .i64 0]) ∧ (∀ k, FL k → w.heap.size ≤ k) ∧
      RLogAt w' bl (opened S first n start) bd FL ∧ RDiskAt w' bd ((opened S first n start).wipes n 0 (Dk.fresh S)).flat (fun k => Fsh FD w k ∧ ¬ FL k) ∧ Ext FD w w' := by
  have hlen : S.length ≤ 5000 := hD.len
  obtain ⟨r1, r2, r3, r4⟩ := hr
  obtain ⟨q, hq⟩ : ∃ x, start / 54 = x := ⟨_, rfl⟩
  obtain ⟨base, hbs⟩ : ∃ x, q * 54 = x := ⟨_, rfl⟩
  have hqi : (start : Int) / 54 = (q : Int) := by omega
  have hb54 : (base : Int) / 54 = (q : Int) := by omega
  have hbs0 : base ≤ start := by omega
  have HFl := Lib.hid (fun w => floor_calls start (by omega) w)
  rw [hq, hbs] at HFl
  obtain ⟨bl, hbl⟩ : ∃ x, w.heap.size = x := ⟨_, rfl⟩
  have HD := Lib.hid hd
  have HDk := Lib.hid hD
  clear hd
  go_enter Try.func25, Try.ntmps25
  go_upto_block 0 with (fail)
  have L0 : RLogAt (w.alloc (.cells #[.pointer (some ⟨bd, 0, none⟩), .int .i64 first, .int .i64 n, .int .i64 start, .int .i64 start, .int .i64 0, .string ⟨#[]⟩, .slice none 0 0] 60)) bl ⟨first, n, start, start, 0, [], []⟩ bd (Fsh NoB w) := by
    subst hbl
    exact ⟨.slice none 0 0, Blk.new w [.pointer (some ⟨bd, 0, none⟩), .int .i64 first, .int .i64 n, .int .i64 start, .int .i64 start, .int .i64 0, .string ⟨#[]⟩, .slice none 0 0] 60, Own.nil _ _ _, .inr (Nat.le_refl _), fun k h => by simp [fp] at h⟩
  have E0 : Ext NoB w (w.alloc (.cells #[.pointer (some ⟨bd, 0, none⟩), .int .i64 first, .int .i64 n, .int .i64 start, .int .i64 start, .int .i64 0, .string ⟨#[]⟩, .slice none 0 0] 60)) := (Ext.refl NoB w).alloc _
  obtain ⟨W0, hW0⟩ : ∃ x, w.alloc (.cells #[.pointer (some ⟨bd, 0, none⟩), .int .i64 first, .int .i64 n, .int .i64 start, .int .i64 start, .int .i64 0, .string ⟨#[]⟩, .slice none 0 0] 60) = x := ⟨_, rfl⟩
  rw [hW0] at L0 E0 ⊢
  have KL0 := Lib.hid L0
  have KE0 := Lib.hid E0
  have HBS := Lib.hid hbs
  have HQ := Lib.hid hq
  have HBL := Lib.hid hbl
  clear L0 E0 hW0 hbs hq hbl
  go_cut [] (fun wc => RLogAt wc bl ⟨first, n, start, start, 0, rawBuf S first n start, []⟩ bd (Fsh NoB w) ∧ Ext NoB w wc)
  case first =>
    go_wp2_with fail
    go_loopg [11] n (fun k v11 wr => ∃ (i : Nat) (buf : List UInt8), v11 = .int .i64 i ∧ i + k = n ∧ RLogAt wr bl ⟨first, n, start, start, 0, buf, []⟩ bd (Fsh NoB w) ∧ Hid (buf.length = 54 * i) ∧ Hid (buf ++ gather S first n k (q + i) = rawBuf S first n start) ∧ Ext NoB w wr)
    case atStart => exact ⟨0, [], rfl, Nat.zero_add _, KL0.out, rfl, by unfold rawBuf; rw [HQ.out]; rfl, KE0.out⟩
    case round =>
      obtain ⟨i, buf, rfl, hik, hL, hbf, hG, hE⟩ := hrel
      have KL := Lib.hid hL
      obtain ⟨vl, hb, _⟩ := hL
      dsimp only at hb
      have c6 := hb.cell (i := 6) rfl
      have r6 := hb.fr 6
      clear hb
      by_cases hlt : i < n
      · have hltb : decide ((i : Int) < (n : Int)) = true := by simp; omega
        obtain ⟨k, hk⟩ : ∃ x, q + i = x := ⟨_, rfl⟩
        have w1 : IntKind.i64.wrap ((q : Int) + (i : Int)) = (k : Int) := by rw [show (q : Int) + (i : Int) = (k : Int) by omega]; exact IntWalk.i64_in _ (by omega)
        have w2 : IntKind.i64.wrap ((i : Int) + 1) = (i : Int) + 1 := IntWalk.i64_in _ (by omega)
        have hkb : k ≤ 2305843009213693952 := by omega
        obtain ⟨r, hrr⟩ : ∃ x, k % n = x := ⟨_, rfl⟩
        have hnz : ¬ n = 0 := by omega
        have hrn : r < n := by rw [← hrr]; exact Nat.mod_lt _ (by omega)
        have hrm : (k : Int) % (n : Int) = (r : Int) := by omega
        have hrt : (k : Int).tmod (n : Int) = (r : Int) := by rw [Int.tmod_eq_emod_of_nonneg (by omega)]; exact hrm
        obtain ⟨jj, hjj⟩ : ∃ x, first + r = x := ⟨_, rfl⟩
        have w3 : IntKind.i64.wrap ((first : Int) + (r : Int)) = (jj : Int) := by rw [show (first : Int) + (r : Int) = (jj : Int) by omega]; exact IntWalk.i64_in _ (by omega)
        have hwr : IntKind.i64.wrap (r : Int) = (r : Int) := IntWalk.i64_in _ (by omega)
        obtain ⟨m, rfl⟩ : ∃ m, gk = m + 1 := ⟨gk - 1, by omega⟩
        have hG' := hG.out
        rw [hk, gather_succ, hrr, hjj] at hG'
        obtain ⟨s, hs⟩ : ∃ x, S.getD jj ⟨#[]⟩ = x := ⟨_, rfl⟩
        rw [hs] at hG'
        have hs64 : s.size = 64 := by
          rw [← hs, List.getD_eq_getElem?_getD, List.getElem?_eq_getElem (by omega)]
          exact HDk.out.firm64 _ (List.getElem_mem _)
        have HRd := Lib.hid (rread_calls bd (Dk.fresh S) FD wr (HD.out.ext hE (fun _ _ _ => id)) HDk.out jj (by omega) (by omega) s 0 (by rw [Dk.read_in rfl (by show jj < S.length; omega)]; show (S.getD jj ⟨#[]⟩, (0 : Int)) = _; rw [hs]))
        obtain ⟨x, hx⟩ : ∃ x, unle (s.data.toList.take 8) = x := ⟨_, rfl⟩
        obtain ⟨y, hy⟩ : ∃ y, unle ((s.data.toList.drop 8).take 2) = y := ⟨_, rfl⟩
        have H8 := Lib.hid (fun w => rval_calls (s.extract 0 8) (by simp; omega) (by simp; omega) w)
        rw [extract_list, List.drop_zero, Nat.sub_zero, hx] at H8
        have H2 := Lib.hid (fun w => rval_calls (s.extract 8 10) (by simp; omega) (by simp; omega) w)
        rw [extract_list, show 10 - 8 = 2 from rfl, hy] at H2
        have hdec : dec k s = if x ≠ k + 1 ∨ 54 < y then none else some ((s.data.toList.drop 10).take y) := by unfold dec; rw [hx, hy]
        have HDC := Lib.hid hdec
        have HG2 := Lib.hid hG'
        have HK := Lib.hid hk
        have hbl4 : buf.length ≤ 221184 := by have := hbf.out; omega
        have hu : IntKind.u64.wrap ((k : Int) + 1) = (k : Int) + 1 := IntWalk.u64_in _ (by omega)
        clear hk hs hrr hjj hx hy hdec hG' hG
        go_wp2_with fail
        refine HRd.out.mono ?_
        rintro e w5 ⟨rfl, rfl⟩
        clear HRd
        go_wp2_with fail
        refine (H8.out _).mono ?_
        rintro e w5 ⟨rfl, rfl⟩
        go_wp2_with fail
        refine (H2.out _).mono ?_
        rintro e w5 ⟨rfl, rfl⟩
        by_cases h8 : x = k + 1
        · have hb8 : ((x : Int) != (k : Int) + 1) = false := by simp; omega
          by_cases h54' : 54 < y
          · have hb5 : decide ((54 : Int) < (y : Int)) = true := by simp; omega
            have HG3 : Hid (buf = rawBuf S first n start) := by have := HG2.out; rw [HDC.out, if_pos (.inr h54')] at this; exact (List.append_nil buf).symm.trans this
            clear HDC HG2
            go_wp2_with fail
            go_meet
            refine ⟨?_, hE⟩
            rw [← HG3.out]
            exact KL.out
          · have hb5 : decide ((54 : Int) < (y : Int)) = false := by simp; omega
            obtain ⟨z, hz⟩ : ∃ z, 10 + y = z := ⟨_, rfl⟩
            have hz1 : IntKind.i64.wrap (10 + (y : Int)) = (z : Int) := by rw [show (10 : Int) + (y : Int) = (z : Int) by omega]; exact IntWalk.i64_in _ (by omega)
            have hz0 : IntKind.i64.wrap (y : Int) = (y : Int) := IntWalk.i64_in _ (by omega)
            have hz2 : (10 : Int) + (y : Int) = (z : Int) := by omega
            have hz3 : (10 : Int) ≤ z := by omega
            have hz4 : (z : Int) ≤ 64 := by omega
            have hz5 : 10 ≤ z := by omega
            have hz6 : z ≤ 64 := by omega
            have hz7 : IntKind.i64.wrap (z : Int) = (z : Int) := IntWalk.i64_in _ (by omega)
            have hz8 : max (z : Int) 0 = (z : Int) := by omega
            obtain ⟨rb, hrb⟩ : ∃ x, s.extract 10 z = x := ⟨_, rfl⟩
            have hrl : rb.data.toList = (s.data.toList.drop 10).take y := by rw [← hrb, extract_list, ← hz, Nat.add_sub_cancel_left]
            have hrs : rb.size = y := by rw [← hrb]; simp; omega
            have hrs2 : rb.data.toList.length = rb.size := by rw [Array.length_toList]; rfl
            have HRL : Hid (dec k s = some rb.data.toList) := by show _ = _; rw [HDC.out, if_neg (by omega), hrl]
            have hqb : ¬ 9223372036854775807 < buf.length + rb.size := by omega
            have HRS := Lib.hid (show rb.size = y ∧ rb.data.toList.length = rb.size from ⟨hrs, hrs2⟩)
            have HZ := Lib.hid hz
            clear hrl hrs hrs2 hz HDC
            go_wp2_with fail
            go_still_tail 12, (by kernel_rfl)
            change wpList _ _ _ _ _ wr.drew
            obtain ⟨hL2, hX2⟩ := (KL.out.ext (Ext.refl NoB wr).drew (fun _ _ _ => id)).putBuf (buf ++ rb.data.toList)
            have X4 : Hid (Ext NoB w (wr.drew.setCell ⟨bl, 6, none⟩ (.string ⟨(buf ++ rb.data.toList).toArray⟩))) := hE.drew.fsh hX2
            have KL4 := Lib.hid hL2
            rw [← ba_join1] at X4 KL4
            clear hL2 hX2
            obtain ⟨W4, hW4⟩ : ∃ W, wr.drew.setCell ⟨bl, 6, none⟩ (.string (⟨buf.toArray⟩ ++ rb)) = W := ⟨_, rfl⟩
            rw [hW4] at X4 KL4
            clear hE HD KL
            by_cases h6 : y < 54
            · have h6b : decide ((y : Int) < 54) = true := by simp; omega
              have HG3 : Hid (buf ++ rb.data.toList = rawBuf S first n start) := by have := HG2.out; rw [HRL.out] at this; dsimp only at this; rw [if_pos (by have := HRS.out; omega)] at this; exact this
              clear HG2 HRL
              go_wp2_with fail
              go_meet
              refine ⟨?_, X4.out⟩
              rw [← HG3.out]
              exact KL4.out
            · have h6b : decide ((y : Int) < 54) = false := by simp; omega
              have HG3 : Hid ((buf ++ rb.data.toList) ++ gather S first n m (k + 1) = rawBuf S first n start) := by have := HG2.out; rw [HRL.out] at this; dsimp only at this; rw [if_neg (by have := HRS.out; omega), ← List.append_assoc] at this; exact this
              clear HG2 HRL
              go_wp2_with fail
              go_roundg m
              case measure => omega
              case rel => exact ⟨i + 1, buf ++ rb.data.toList, by go_num, by omega, KL4.out, by show (buf ++ rb.data.toList).length = _; have := HRS.out; rw [List.length_append, this.2, this.1, hbf.out]; omega, by rw [show q + (i + 1) = k + 1 by have := HK.out; omega]; exact HG3, X4.out⟩
        · have hb8 : ((x : Int) != (k : Int) + 1) = true := by simp; omega
          have HG3 : Hid (buf = rawBuf S first n start) := by have := HG2.out; rw [HDC.out, if_pos (.inl h8)] at this; exact (List.append_nil buf).symm.trans this
          clear HDC HG2 h8
          go_wp2_with fail
          go_meet
          refine ⟨?_, hE⟩
          rw [← HG3.out]
          exact KL.out
      · have hltb : decide ((i : Int) < (n : Int)) = false := by simp; omega
        obtain rfl : gk = 0 := by omega
        go_wp2_with fail
        go_meet
        refine ⟨?_, hE⟩
        have := hG.out
        rw [gather, List.append_nil] at this
        rw [← this]
        exact KL.out
  case rest =>
    obtain ⟨hLr, hEr⟩ := hcut
    have hrl := gather_le S first n n (start / 54)
    obtain ⟨raw, hraw⟩ : ∃ x, rawBuf S first n start = x := ⟨_, rfl⟩
    have hraw54 : raw.length ≤ 54 * n := by rw [← hraw]; exact hrl
    obtain ⟨⟨l2, e2⟩, hP⟩ : ∃ x, parse raw base raw.length start = x := ⟨_, rfl⟩
    rw [hraw] at hLr
    have KLr := Lib.hid hLr
    have HRAW := Lib.hid hraw
    have HP := Lib.hid hP
    obtain ⟨R, hR⟩ : ∃ x : ByteArray, (⟨raw.toArray⟩ : ByteArray) = x := ⟨_, rfl⟩
    have hRs : R.size = raw.length := by rw [← hR]; exact List.size_toArray
    have hRl : R.data.toList = raw := by rw [← hR]
    have HR := Lib.hid hR
    have HRL0 := Lib.hid hRl
    clear hLr hraw hP hrl KL0 KE0 hR hRl
    go_upto_block 2 with (fail)
    go_cut [] (fun wx => RLogAt wx bl ⟨first, n, start, e2, 0, raw, l2⟩ bd (Fsh NoB w) ∧ Ext NoB w wx)
    case first =>
      go_wp2_with fail
      go_loopg [] raw.length (fun f wr => ∃ (e : Nat) (acc : List (Nat × ByteArray)), RLogAt wr bl ⟨first, n, start, e, 0, raw, acc⟩ bd (Fsh NoB w) ∧ start ≤ e ∧ e ≤ start + raw.length ∧ raw.length ≤ e - base + f ∧ 3 * acc.length + start ≤ e ∧ Hid (acc ++ (parse raw base f e).1 = l2 ∧ (parse raw base f e).2 = e2) ∧ Ext NoB w wr)
      case atStart => exact ⟨start, [], KLr.out, Nat.le_refl _, by omega, by omega, by simp, by show _ ∧ _; rw [HP.out]; exact ⟨rfl, rfl⟩, hEr⟩
      case round =>
        obtain ⟨e, acc, hL, he1, he2, hfu, hac, hPr, hE⟩ := hrel
        obtain ⟨p, hp⟩ : ∃ x, e - base = x := ⟨_, rfl⟩
        have w1 : IntKind.i64.wrap ((e : Int) - (base : Int)) = (p : Int) := by rw [show (e : Int) - (base : Int) = (p : Int) by omega]; exact IntWalk.i64_in _ (by omega)
        have hpr : raw.length ≤ p + gk := by omega
        have hpe : e ≤ base + p := by omega
        have hpe2 : base + p ≤ e := by omega
        have HPE := Lib.hid hp
        have hsz : sizeAt raw base e = if raw.length < p + 2 then 0 else if raw.length < p + 2 + unle ((raw.drop p).take 2) then 0 else unle ((raw.drop p).take 2) := by unfold sizeAt; rw [hp]
        have HSZ := Lib.hid hsz
        have STOP : Hid (sizeAt raw base e = 0 → e = e2 ∧ acc = l2) := fun h => by
          have := hPr.out
          rw [parse_stop h, List.append_nil] at this
          exact ⟨this.2, this.1⟩
        clear hp hsz hfu
        have KL0 := Lib.hid hL
        obtain ⟨_, hb, _⟩ := hL
        dsimp only at hb
        have c4 := hb.cell (i := 4) rfl
        clear hb
        go_wp2_with fail
        go_quiet ((go_at_call 42; exact quiet_w (HFl.out _)))
        have hEq := hE.drewN nq
        have hL := KL0.out.ext (Ext.ofDrew wr nq) (fun _ _ _ => id)
        obtain ⟨wq, hwq⟩ : ∃ x, wr.drewN nq = x := ⟨_, rfl⟩
        rw [hwq] at hL hEq ⊢
        clear hE KL0 c4 hwq w1
        have KL := Lib.hid hL
        obtain ⟨vl, hb, k2, fb, f2⟩ := hL
        dsimp only at hb
        rw [HR.out] at hb
        obtain ⟨b8, cl8, rfl, _, _⟩ := k2.shape
        dsimp only at hb k2 f2
        have c4 := hb.cell (i := 4) rfl
        have c6 := hb.cell (i := 6) rfl
        have c7 := hb.cell (i := 7) rfl
        have HB := Lib.hid hb
        have K2 := Lib.hid k2
        have G2 := Lib.hid f2
        clear hb k2 f2
        obtain ⟨p2, hp2⟩ : ∃ x, p + 2 = x := ⟨_, rfl⟩
        have hw2 : IntKind.i64.wrap ((p : Int) + 2) = (p2 : Int) := by rw [show (p : Int) + 2 = (p2 : Int) by omega]; exact IntWalk.i64_in _ (by omega)
        have he2' : (p : Int) + 2 = (p2 : Int) := by omega
        have hp2a : p2 ≤ p + 2 := by omega
        have hp2b : p + 2 ≤ p2 := by omega
        have HP2 := Lib.hid hp2
        by_cases hA : raw.length < p2
        · have hA2 : decide ((raw.length : Int) < (p2 : Int)) = true := by simp; omega
          have hE2 := STOP.out (by rw [HSZ.out, if_pos (by omega)])
          have HE2 := Lib.hid hE2
          clear hE2 hp2
          go_wp2_with fail
          go_meet
          obtain ⟨rfl, rfl⟩ := HE2.out
          exact ⟨KL.out, hEq⟩
        · have hA2 : decide ((raw.length : Int) < (p2 : Int)) = false := by simp; omega
          have hlh : (p : Int) ≤ p2 := by omega
          have hhc : (p2 : Int) ≤ raw.length := by omega
          have hlh' : p ≤ p2 := by omega
          have hhc' : p2 ≤ raw.length := by omega
          obtain ⟨s2, hs2⟩ : ∃ x : ByteArray, R.extract p p2 = x := ⟨_, rfl⟩
          have hs2s : s2.size = 2 := by rw [← hs2]; simp; omega
          have hsl : s2.data.toList = (raw.drop p).take 2 := by rw [← hs2, extract_list, HRL0.out, show p2 - p = 2 by omega]
          obtain ⟨sz, hsz⟩ : ∃ x, unle ((raw.drop p).take 2) = x := ⟨_, rfl⟩
          have hsz64 : sz ≤ 65535 := by rw [← hsz]; exact unle2_lt _ (by rw [List.length_take]; omega)
          have HV := Lib.hid (fun w => rval_calls s2 (by omega) (by omega) w)
          rw [hsl, hsz] at HV
          have hsz' := HSZ.out
          rw [hsz, if_neg (by omega)] at hsz'
          have HSZ2 := Lib.hid hsz'
          clear hsz hsl hs2s hsz' hp2 HSZ
          go_wp2_with fail
          refine (HV.out _).mono ?_
          rintro e w3 ⟨rfl, rfl⟩
          by_cases hz : sz = 0
          · have hE2 := STOP.out (by rw [HSZ2.out, hz]; simp)
            have HE2 := Lib.hid hE2
            clear hE2
            subst hz
            go_wp2_with fail
            go_meet
            obtain ⟨rfl, rfl⟩ := HE2.out
            exact ⟨KL.out, hEq⟩
          · have hz1 : ((sz : Int) == 0) = false := by simp; omega
            have hw3 : IntKind.i64.wrap (sz : Int) = (sz : Int) := IntWalk.i64_in _ (by omega)
            obtain ⟨p3, hp3⟩ : ∃ x, p2 + sz = x := ⟨_, rfl⟩
            have hw4 : IntKind.i64.wrap ((p2 : Int) + (sz : Int)) = (p3 : Int) := by rw [show (p2 : Int) + (sz : Int) = (p3 : Int) by omega]; exact IntWalk.i64_in _ (by omega)
            have he3' : (p2 : Int) + (sz : Int) = (p3 : Int) := by omega
            have hw5 : IntKind.i64.wrap (p2 : Int) = (p2 : Int) := IntWalk.i64_in _ (by omega)
            have hw6 : IntKind.i64.wrap (p3 : Int) = (p3 : Int) := IntWalk.i64_in _ (by omega)
            have hp3a : p3 ≤ p2 + sz := by omega
            have hp3b : p2 + sz ≤ p3 := by omega
            have HP3 := Lib.hid hp3
            clear HV hs2 hp3
            by_cases hB : raw.length < p3
            · have hB2 : decide ((raw.length : Int) < (p3 : Int)) = true := by simp; omega
              have hE2 := STOP.out (by rw [HSZ2.out, if_pos (by omega)])
              have HE2 := Lib.hid hE2
              clear hE2
              go_wp2_with fail
              go_meet
              obtain ⟨rfl, rfl⟩ := HE2.out
              exact ⟨KL.out, hEq⟩
            · have hB2 : decide ((raw.length : Int) < (p3 : Int)) = false := by simp; omega
              have hse : sizeAt raw base e = sz := by rw [HSZ2.out, if_neg (by omega)]
              have hmx : max (p3 : Int) 0 = (p3 : Int) := by omega
              have hlh3 : (p2 : Int) ≤ p3 := by omega
              have hhc3 : (p3 : Int) ≤ raw.length := by omega
              have hlh3' : p2 ≤ p3 := by omega
              have hhc3' : p3 ≤ raw.length := by omega
              obtain ⟨r, hrr⟩ : ∃ x : ByteArray, recAt raw base e = x := ⟨_, rfl⟩
              have hrs : r.size = sz := by rw [← hrr, recAt_size (by rw [hse]; exact hz), hse]
              have hex : R.extract p2 p3 = r := by
                rw [← hrr]
                apply ByteArray.ext; apply Array.ext'
                rw [extract_list, HRL0.out]
                unfold recAt
                rw [hse, HPE.out, HP2.out, show p3 - p2 = sz by omega]
              have KD := Lib.hid (show sizeAt raw base e = sz ∧ recAt raw base e = r ∧ r.size = sz from ⟨hse, hrr, hrs⟩)
              have n4 : acc.length ≤ 221184 := by omega
              clear hse hrr hrs HSZ2 STOP
              go_upto_region 18 with (fail)
              have n5 : 0 ≤ (sz : Int) := by omega
              go_cut [] (fun wx => RLogAt wx bl ⟨first, n, start, e, 0, raw, acc ++ [(e, r)]⟩ bd (Fsh NoB w) ∧ Ext NoB w wx)
              case first =>
                have n8 : ∀ k, fp (.slice b8 acc.length cl8) = some k → k ≠ bl := fun k h => (G2.out k h).2
                obtain ⟨SA, hSA⟩ : ∃ x : Nat → Prop, (fun k => fp (.slice b8 acc.length cl8) = some k) = x := ⟨_, rfl⟩
                have hSA1 : ∀ k, SA k → fp (.slice b8 acc.length cl8) = some k := fun k h => by rw [← hSA] at h; exact h
                have nbl : ¬ SA bl := fun h => (G2.out _ (hSA1 _ h)).2 rfl
                have KA2 : Own (wq.alloc (.cells #[.int .i64 e, .string r] 86)).drew (.slice b8 acc.length cl8) 86 2 acc.length (softCells acc) := (K2.out.alloc _).drew
                have HS2 : Src Try.prog (wq.alloc (.cells #[.int .i64 e, .string r] 86)).drew 2 (.slice (some ⟨wq.heap.size, 0, none⟩) 1 1) 1 [.int .i64 e, .string r] := (Src.two (P := Try.prog) wq (.int .i64 e) (.string r) 86).drew
                have KAB := Lib.hid ((HB.out.alloc (.cells #[.int .i64 e, .string r] 86)).drew)
                have HKA := Lib.hid KA2
                have HHS := Lib.hid HS2
                have hEA := (Ext.refl SA wq).alloc (.cells #[.int .i64 e, .string r] 86)
                have c4A := (HB.out.ext hEA nbl).cell (i := 4) rfl
                have c6A := (HB.out.ext hEA nbl).cell (i := 6) rfl
                have c7A := (HB.out.ext hEA nbl).cell (i := 7) rfl
                clear KA2 HS2 n8 hSA hEA nbl hSA1
                go_region_law (first | ((refine step_append_Own rfl _ _ 58 58 rfl 86 2 24 _ Try.underlying58 (.inl Try.underlying58) info86 rfl _ acc.length (softCells acc) rfl HKA.out _ rfl 1 [.int .i64 e, .string r] HHS.out rfl (by simp [Value.oneCell']) (by simp only [maxLen]; omega) (by omega) ?_; intro v5 w5 hO5 hE5 hF5; have B5 := KAB.out.ext hE5 (fun e => (G2.out _ e).2 rfl); have q8 := B5.cell (i := 7) rfl; have s8 := B5.fr 7; obtain ⟨b5, c5, hv5, _, _⟩ := hO5.shape; rw [hv5] at hO5 hF5; rw [hv5]; clear hv5)))
                all_goals
                  have X := (hEq.alloc (.cells #[.int .i64 e, .string r] 86)).drew
                  have hPL := RLogAt.putList (L := ⟨first, n, start, e, 0, raw, acc⟩) (list' := acc ++ [(e, r)]) (by dsimp only; rw [HR.out]; exact KAB.out) fb G2.out (by rw [List.length_append, softCells_snoc]; exact hO5) hE5 (fun k hk => hF5 k hk)
                  have KF1 := Lib.hid (hPL.1.mono (F' := Fsh NoB w) (fun k _ h => Fsh.up X.size k h))
                  have KF2 := Lib.hid (X.fsh hPL.2)
                  clear hPL X hO5 hE5 hF5
                  go_wp2_with fail
                  go_meet
                  exact ⟨KF1.out, KF2.out⟩
              case rest =>
                obtain ⟨hL5', X5⟩ := hcut
                have e4 : ((e + 2 + sz : Nat) : Int) = (e : Int) + (2 + (sz : Int)) := by omega
                obtain ⟨hL6, hX6⟩ := hL5'.putFin (e + 2 + sz)
                rw [e4] at hL6 hX6
                have c4n : wc.cell? ⟨bl, 4, none⟩ = some (.int .i64 e) := by obtain ⟨_, hb, _⟩ := hL5'; exact hb.cell rfl
                have r4n : wc.frozen? ⟨bl, 4, none⟩ = false := by obtain ⟨_, hb, _⟩ := hL5'; exact hb.fr 4
                have X6 := Lib.hid (X5.fsh hX6)
                have KL6 := Lib.hid hL6
                have hw7 : IntKind.i64.wrap (2 + (sz : Int)) = 2 + (sz : Int) := IntWalk.i64_in _ (by omega)
                clear hL6 hX6 hL5' e4 X5 c4 c6 c7
                go_wp2_with fail
                obtain ⟨m, rfl⟩ : ∃ m, gk = m + 1 := ⟨gk - 1, by omega⟩
                go_roundg m
                case measure => omega
                case rel =>
                  refine ⟨e + 2 + sz, acc ++ [(e, r)], KL6.out, by omega, by omega, by omega, by rw [List.length_append]; simp only [List.length_cons, List.length_nil]; omega, ?_, X6.out⟩
                  have hh := hPr.out
                  rw [parse_go (by rw [KD.out.1]; exact hz), KD.out.1, KD.out.2.1] at hh
                  show _ ∧ _
                  rw [List.append_assoc]
                  exact hh
    case rest =>
      obtain ⟨hLr2, hEr2⟩ := hcut
      have hc2 := parse_spec raw base raw.length start hbs0
      rw [HP.out] at hc2
      obtain ⟨hch, hse1, hse2⟩ := hc2
      dsimp only at hch hse1 hse2
      obtain ⟨p, hp⟩ : ∃ x, e2 - base = x := ⟨_, rfl⟩
      have hpw : IntKind.i64.wrap ((e2 : Int) - (base : Int)) = (p : Int) := by rw [show (e2 : Int) - (base : Int) = (p : Int) by omega]; exact IntWalk.i64_in _ (by omega)
      have hpl2 : p ≤ 221184 := by omega
      have hpe1 : e2 ≤ base + p := by omega
      have hpe2 : base + p ≤ e2 := by omega
      have HPP := Lib.hid hp
      have hbp : 0 ≤ (p : Int) := by omega
      have hop : opened S first n start = ⟨first, n, start, e2, e2, raw.take p ++ List.replicate (p - raw.length) 0, l2⟩ := by
        unfold opened
        rw [HRAW.out, HQ.out, HBS.out, HP.out]
        dsimp only
        rw [HPP.out]
      have HOP := Lib.hid hop
      have KL := Lib.hid hLr2
      obtain ⟨_, hb, _⟩ := hLr2
      dsimp only at hb
      have c4 := hb.cell (i := 4) rfl
      clear hb hch hp hop
      go_wp2_with fail
      go_quiet ((go_at_call 42; exact quiet_w (HFl.out _)))
      have hE := hEr2.drewN nq
      have hL := KL.out.ext (Ext.ofDrew wc nq) (fun _ _ _ => id)
      obtain ⟨wq, hwq⟩ : ∃ x, wc.drewN nq = x := ⟨_, rfl⟩
      rw [hwq] at hL hE ⊢
      clear hwq hEr2 KL c4 hpw
      have KL := Lib.hid hL
      obtain ⟨vl, hb, k2, fb, f2⟩ := hL
      dsimp only at hb
      rw [HR.out] at hb
      have c6 := hb.cell (i := 6) rfl
      have r6 := hb.fr 6
      clear hb k2 f2
      obtain ⟨bn, hbn⟩ : ∃ x, min p raw.length = x := ⟨_, rfl⟩
      obtain ⟨m, hm⟩ : ∃ x, p - bn = x := ⟨_, rfl⟩
      have hmt : (raw.take p).length = bn := by rw [List.length_take, hbn]
      obtain ⟨T, hT⟩ : ∃ x : ByteArray, (⟨(raw.take p).toArray⟩ : ByteArray) = x := ⟨_, rfl⟩
      have hTs : T.size = bn := by rw [← hT]; show (List.toArray _).size = _; rw [List.size_toArray, hmt]
      have HT := Lib.hid hT
      have hbn1 : bn ≤ p := by omega
      have hbn2 : bn ≤ raw.length := by omega
      have HMM : Hid (p - raw.length = m) := by show _ = _; omega
      have hm1 : m ≤ 221184 := by omega
      go_upto_if 178 with (fail)
      go_cut [] (fun wx => RLogAt wx bl ⟨first, n, start, e2, 0, raw.take p, l2⟩ bd (Fsh NoB w) ∧ Ext NoB w wx)
      case first =>
        by_cases hA : p < raw.length
        · have hA2 : decide ((p : Int) < (raw.length : Int)) = true := by simp; omega
          have hpc : (p : Int) ≤ raw.length := by omega
          have hpc' : p ≤ raw.length := by omega
          have hex : R.extract 0 p = T := by
            rw [← HT.out]
            apply ByteArray.ext; apply Array.ext'
            rw [extract_list, HRL0.out]
            simp
          have hPB := KL.out.putBuf (raw.take p)
          have KF1 := Lib.hid (hPB.1.mono (F' := Fsh NoB w) (fun k _ h => h))
          have KF2 := Lib.hid (hE.fsh (S := NoB) hPB.2)
          rw [HT.out] at KF1 KF2
          clear hPB hmt hT hbn hm
          go_wp2_with fail
          go_meet
          exact ⟨KF1.out, KF2.out⟩
        · have hA2 : decide ((p : Int) < (raw.length : Int)) = false := by simp; omega
          clear hmt hT hbn hm
          go_wp2_with fail
          go_meet
          refine ⟨?_, hE⟩
          rw [List.take_of_length_le (by omega)]
          exact KL.out
      case rest =>
        obtain ⟨hL, hE'⟩ := hcut
        clear c6 r6 hE KL
        have hmw : IntKind.i64.wrap ((p : Int) - (bn : Int)) = (m : Int) := by rw [show (p : Int) - (bn : Int) = (m : Int) by omega]; exact IntWalk.i64_in _ (by omega)
        have HMT := Lib.hid hmt
        clear hmt hT hbn hm
        obtain ⟨Z, hZ⟩ : ∃ Z, (bytesV (zeros m)).toArray = Z := ⟨_, rfl⟩
        obtain ⟨zs, hzs⟩ : ∃ x : ByteArray, (⟨(zeros m).toArray⟩ : ByteArray) = x := ⟨_, rfl⟩
        have hzz : zs.size = m := by rw [← hzs]; show (List.toArray _).size = _; rw [List.size_toArray]; simp [zeros]
        have hzl : zs.data.toList = List.replicate m 0 := by rw [← hzs]; rfl
        have hmk := mk_zeros m (by omega) wc.drew
        rw [hZ] at hmk
        have hcv := conv_later wc (wc.alloc (.cells Z 5)).drew m (by rw [hZ]; exact (Ext.refl _ _).drew)
        rw [hzs] at hcv
        have KL := Lib.hid hL
        obtain ⟨vl, hb, k2, fb, f2⟩ := hL
        dsimp only at hb
        rw [HT.out] at hb
        have c6 := hb.cell (i := 6) rfl
        have r6 := hb.fr 6
        have c6A := (hb.alloc (.cells Z 5)).cell (i := 6) rfl
        have r6A := (hb.alloc (.cells Z 5)).fr 6
        have KB := Lib.hid hb
        have HZL := Lib.hid hzl
        have hqb : ¬ 9223372036854775807 < bn + m := by omega
        clear hb k2 f2 hZ hzs hzl
        go_upto_region 23 with (fail)
        go_cut [] (fun wx => RLogAt wx bl ⟨first, n, start, e2, 0, raw.take p ++ List.replicate m 0, l2⟩ bd (Fsh NoB w) ∧ Ext NoB w wx)
        case first =>
          go_region_with (fail)
          all_goals
            have X : Ext NoB w (wc.alloc (.cells Z 5)).drew := (hE'.alloc _).drew
            have hPB := (KL.out.ext (((Ext.refl NoB wc).alloc (.cells Z 5)).drew) (fun _ _ _ => id)).putBuf (raw.take p ++ zs.data.toList)
            rw [← ba_join1, HT.out, HZL.out] at hPB
            have KF1 := Lib.hid hPB.1
            have KF2 := Lib.hid (X.fsh (S := NoB) hPB.2)
            clear hPB X
            go_wp2_with fail
            go_meet
            exact ⟨KF1.out, KF2.out⟩
        case rest =>
          obtain ⟨hL2, hE4⟩ := hcut
          clear c6 r6 c6A r6A hmk hcv KB KL
          have KL2 := Lib.hid hL2
          obtain ⟨_, hb, _⟩ := hL2
          dsimp only at hb
          have c4 := hb.cell (i := 4) rfl
          have c5 := hb.cell (i := 5) rfl
          have r5 := hb.fr 5
          clear hb
          have hL5 : RLogAt (wc.setCell ⟨bl, 5, none⟩ (.int .i64 e2)) bl ⟨first, n, start, e2, e2, raw.take p ++ List.replicate m 0, l2⟩ bd (Fsh NoB w) := (KL2.out.putFirm e2).1
          have hX5 := (KL2.out.putFirm e2).2
          have hbo : (Lg.mk first n start e2 e2 (raw.take p ++ List.replicate m 0) l2) = opened S first n start := by rw [HOP.out, HMM.out]
          rw [hbo] at hL5
          obtain ⟨W5, hW5⟩ : ∃ W, wc.setCell ⟨bl, 5, none⟩ (.int .i64 e2) = W := ⟨_, rfl⟩
          rw [hW5] at hL5 hX5
          have X5 : Ext NoB w W5 := hE4.fsh hX5
          have KL5 := Lib.hid (hL5.mono (F' := fun k => w.heap.size ≤ k ∧ k < W5.heap.size) (fun k hk h => ⟨h.elim (fun h => h.elim) id, hk⟩))
          have hD5 : RDiskAt W5 bd (Dk.fresh S) (fun k => FD k ∧ k < w.heap.size) := (HD.out.mono (fun k hk h => ⟨h, hk⟩)).ext X5 (fun _ _ _ => id)
          obtain ⟨L, hLdef⟩ : ∃ x, opened S first n start = x := ⟨_, rfl⟩
          have hokL : L.Ok := by rw [← hLdef]; exact opened_Ok S first n start (by omega) (by omega) (by omega) h54 h40
          have hLn : L.n = n := by rw [← hLdef]; rfl
          have hLf : L.first = first := by rw [← hLdef]; rfl
          rw [hLdef] at KL5
          have HWp := rwipe_calls bl bd L (Dk.fresh S) _ _ W5 KL5.out hokL hD5 HDk.out rfl rfl (by rw [hLn, hLf]; show first + n ≤ S.length; omega) (by simp [Dk.fresh]) (fun k h h' => by omega)
          rw [hLn] at HWp
          have HWP := Lib.hid HWp
          have HLD := Lib.hid hLdef
          have HX5 := Lib.hid X5
          clear hL5 hX5 hE4 hD5 HWp hLdef hLn hLf hokL hbo HOP X5 hE'
          go_wp2_with fail
          refine HWP.out.mono ?_
          rintro e w6 ⟨rfl, hL6, hD6, hE6⟩
          have KL6 := Lib.hid hL6
          have KE6 := Lib.hid (HX5.out.mono (S' := fun k => FD k ∧ k < w.heap.size) (fun _ _ h => h.elim) |>.trans hE6 (fun _ _ h => h))
          have KD7 := Lib.hid (hD6.mono (F' := fun k => Fsh FD w k ∧ ¬ (w.heap.size ≤ k ∧ k < W5.heap.size)) (fun k _ h => h.elim (fun h => ⟨.inl h.1, fun h' => by omega⟩) (fun h => ⟨.inr (Nat.le_trans HX5.out.size h), fun h' => by omega⟩)))
          have KE7 := Lib.hid (KE6.out.mono (S' := FD) (fun _ _ h => h.1))
          clear hL6 hD6 hE6
          go_wp2_with fail
          go_ret2
          refine ⟨bl, fun k => w.heap.size ≤ k ∧ k < W5.heap.size, rfl, fun k h => h.1, ?_, ?_, KE7.out⟩
          · rw [HLD.out]; exact KL6.out
          · rw [HLD.out]; exact KD7.out
end Go.Proofs.Ytdhklomnaodcnaa
