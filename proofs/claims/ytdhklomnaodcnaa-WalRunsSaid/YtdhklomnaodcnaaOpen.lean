/- wal's Open: the walk. -/
import Derived.Test.YtdhklomnaodcnaaCr
import Derived.Test.YtdhklomnaodcnaaLoad
import Derived.Test.YtdhklomnaodcnaaClone
import Derived.Test.YtdhklomnaodcnaaLg2
import Derived.Test.YtdhklomnaodcnaaOpenW
import Derived.StillTailTactics
import Derived.Deep.RegionHeldLaw
import Derived.Deep.CutBlock
import Derived.Deep.DeepCutAuto
import Derived.Deep.LoopGhost
namespace Go.Proofs.Ytdhklomnaodcnaa
open Go.RowKit

set_option maxHeartbeats 4000000 in
set_option maxRecDepth 100000 in
theorem open_calls (bd : Nat) (S : List ByteArray) (FD : Nat → Prop) (w : World) (hd : DiskAt w bd (Dk.fresh S) FD) (hD : (Dk.fresh S).Ok) (first n start : Nat) (hr : RingOk S.length first n) (h54 : 54 ≤ start) (h40 : start ≤ 1099511627776) :
    Calls Try.prog 24 #[.pointer (some ⟨bd, 0, none⟩), .int .i64 first, .int .i64 n, .int .i64 start] w fun e w' => ∃ bl vl FL, e = .returned (.tuple #[.pointer (some ⟨bl, 0, none⟩), vl, .int .i64 0]) ∧ (∀ k, FL k → w.heap.size ≤ k) ∧
      LogAt w' bl (opened S first n start) bd FL ∧ DiskAt w' bd ((opened S first n start).wipes n 0 (Dk.fresh S)).flat (fun k => Fsh FD w k ∧ ¬ FL k) ∧
      Own w' vl 86 2 (opened S first n start).list.length (softCells (opened S first n start).list) ∧ (∀ k, fp vl = some k → w.heap.size ≤ k) ∧ Ext FD w w' := by
  have hlen : S.length ≤ 5000 := hD.len
  obtain ⟨a, c, hc⟩ := hd.firmCell
  have HR := Lib.hid (ring_calls S.length hlen first n bd a c w hc)
  rw [decide_eq_true hr] at HR
  obtain ⟨r1, r2, r3, r4⟩ := hr
  obtain ⟨q, hq⟩ : ∃ x, start / 54 = x := ⟨_, rfl⟩
  obtain ⟨base, hbs⟩ : ∃ x, q * 54 = x := ⟨_, rfl⟩
  have hqi : (start : Int) / 54 = (q : Int) := by omega
  have hbi : (q : Int) * 54 = (base : Int) := by omega
  have hbw : IntKind.i64.wrap (base : Int) = (base : Int) := IntWalk.i64_in _ (by omega)
  have hb54 : (base : Int) / 54 = (q : Int) := by omega
  have n1 : ¬ (start : Int) < 54 := by omega
  have n2 : ¬ (1099511627776 : Int) < start := by omega
  have n3 : decide ((start : Int) < 54) = false := decide_eq_false n1
  have n4 : decide ((1099511627776 : Int) < start) = false := decide_eq_false n2
  obtain ⟨bl, hbl⟩ : ∃ x, w.heap.size = x := ⟨_, rfl⟩
  have HD := Lib.hid hd
  have HDk := Lib.hid hD
  clear hc hd
  go_enter Try.func24, Try.ntmps24
  go_wp2_with fail
  refine HR.out.mono ?_
  rintro e w1 ⟨rfl, rfl⟩
  go_upto_block 0 with (fail)
  have L0 : LogAt (w.alloc (.cells #[.pointer (some ⟨bd, 0, none⟩), .int .i64 first, .int .i64 n, .int .i64 start, .int .i64 start, .int .i64 0, .int .i64 base, .slice none 0 0, .slice none 0 0] 83)) bl ⟨first, n, start, start, 0, [], []⟩ bd (Fsh NoB w) := by
    have e : (Lg.mk first n start start 0 [] []).base = base := by unfold Lg.base; rw [hq, hbs]
    subst hbl
    exact ⟨.slice none 0 0, .slice none 0 0, by rw [e]; exact Blk.new w [.pointer (some ⟨bd, 0, none⟩), .int .i64 first, .int .i64 n, .int .i64 start, .int .i64 start, .int .i64 0, .int .i64 base, .slice none 0 0, .slice none 0 0] 83, Own.nil _ _ _, Own.nil _ _ _, .inr (Nat.le_refl _), fun k h => by simp [fp] at h, fun k h => by simp [fp] at h, fun k h => by simp [fp] at h⟩
  have E0 : Ext NoB w (w.alloc (.cells #[.pointer (some ⟨bd, 0, none⟩), .int .i64 first, .int .i64 n, .int .i64 start, .int .i64 start, .int .i64 0, .int .i64 base, .slice none 0 0, .slice none 0 0] 83)) := (Ext.refl NoB w).alloc _
  obtain ⟨W0, hW0⟩ : ∃ x, w.alloc (.cells #[.pointer (some ⟨bd, 0, none⟩), .int .i64 first, .int .i64 n, .int .i64 start, .int .i64 start, .int .i64 0, .int .i64 base, .slice none 0 0, .slice none 0 0] 83) = x := ⟨_, rfl⟩
  rw [hW0] at L0 E0 ⊢
  have KL0 := Lib.hid L0
  have KE0 := Lib.hid E0
  have HBS := Lib.hid hbs
  have HQ := Lib.hid hq
  have HBL := Lib.hid hbl
  clear L0 E0 hW0 hbs hq hbl n1 n2 n3 n4 HR
  go_cut [] (fun wc => LogAt wc bl ⟨first, n, start, start, 0, rawBuf S first n start, []⟩ bd (Fsh NoB w) ∧ Ext NoB w wc)
  case first =>
    go_wp2_with fail
    go_loopg [12] n (fun k v12 wr => ∃ (i : Nat) (buf : List UInt8), v12 = .int .i64 i ∧ i + k = n ∧ LogAt wr bl ⟨first, n, start, start, 0, buf, []⟩ bd (Fsh NoB w) ∧ Hid (buf.length = 54 * i) ∧ Hid (buf ++ gather S first n k (q + i) = rawBuf S first n start) ∧ Ext NoB w wr)
    case atStart => exact ⟨0, [], rfl, Nat.zero_add _, KL0.out, rfl, by unfold rawBuf; rw [HQ.out]; rfl, KE0.out⟩
    case round =>
      obtain ⟨i, buf, rfl, hik, hL, hbf, hG, hE⟩ := hrel
      have KL := Lib.hid hL
      obtain ⟨vb, vl, hb, k1, k2, fb, f1, f2, d⟩ := hL
      rw [show (Lg.mk first n start start 0 buf []).base = base by unfold Lg.base; rw [HQ.out, HBS.out]] at hb
      obtain ⟨bb, cb, rfl, _, _⟩ := k1.shape
      have c6 := hb.cell (i := 6) rfl
      clear hb k1 k2 f1 f2 d
      by_cases hlt : i < n
      · obtain ⟨k, hk⟩ : ∃ x, q + i = x := ⟨_, rfl⟩
        have w1 : IntKind.i64.wrap ((q : Int) + (i : Int)) = (k : Int) := by rw [show (q : Int) + (i : Int) = (k : Int) by omega]; exact IntWalk.i64_in _ (by omega)
        have w2 : IntKind.i64.wrap ((i : Int) + 1) = (i : Int) + 1 := IntWalk.i64_in _ (by omega)
        obtain ⟨m, rfl⟩ : ∃ m, gk = m + 1 := ⟨gk - 1, by omega⟩
        have hG' := hG.out
        rw [hk, gather_succ] at hG'
        obtain ⟨sd, hsd⟩ : ∃ x, S.getD (first + k % n) ⟨#[]⟩ = x := ⟨_, rfl⟩
        have HLd := Lib.hid (by
          have hx := KL.out
          obtain ⟨vb', vl', hb', _⟩ := hx
          exact load_calls bl bd first n (Dk.fresh S) FD wr (HD.out.ext hE (fun _ _ _ => id)) HDk.out rfl (by omega) (by show first + n ≤ S.length; omega) (hb'.cell rfl) (hb'.cell rfl) (hb'.cell rfl) k (by omega))
        rw [show (Dk.fresh S).seen = S from rfl, hsd] at HLd
        rw [hsd] at hG'
        have HK := Lib.hid hk
        clear hk hsd
        go_wp2_with fail
        refine HLd.out.mono ?_
        rintro e w3 ⟨rfl, hE3⟩
        have hE4 := hE.trans hE3 (fun _ _ h => h.elim)
        have KL3 := Lib.hid (KL.out.ext hE3 (fun _ _ _ => id))
        clear c6 HLd hE3 KL
        rcases hdc : dec k sd with _ | l
        · rw [hdc] at hG'
          have HG2 := Lib.hid hG'
          rw [show decS k sd = ⟨#[]⟩ by unfold decS; rw [hdc]]
          clear hG' hG hdc
          go_wp2_with fail
          go_meet
          refine ⟨?_, hE4⟩
          have := HG2.out
          rw [List.append_nil] at this
          rw [← this]
          exact KL3.out
        · have hl54 := dec_le hdc
          obtain ⟨r, rfl⟩ : ∃ r : ByteArray, l = r.data.toList := ⟨⟨l.toArray⟩, by simp⟩
          rw [hdc] at hG'
          have HG2 := Lib.hid hG'
          rw [show decS k sd = r by unfold decS; rw [hdc]]
          have hrs : r.data.toList.length = r.size := by rw [Array.length_toList]; rfl
          have hr54 : r.size ≤ 54 := by omega
          have hbl4 : buf.length ≤ 221184 := by have := hbf.out; omega
          have HRS := Lib.hid hrs
          obtain ⟨vb, vl, hb, k1, k2, fb, f1, f2, d⟩ := KL3.out
          obtain ⟨bb, cb, rfl, _, _⟩ := k1.shape
          have c7 := hb.cell (i := 7) rfl
          have K1 := Lib.hid k1
          have K2 := Lib.hid k2
          have KB := Lib.hid hb
          have G1 := Lib.hid f1
          have G2 := Lib.hid f2
          have GD := Lib.hid d
          clear hG' hG hdc hrs hl54 k1 k2 hb f1 f2 d KL3
          go_wp2_with (at_builtin; refine wpList_append_Own rfl _ _ 76 9 rfl 5 1 1 _ Try.underlying76 (.inr Try.underlying9) info5 rfl _ buf.length (bytesV buf) rfl K1.out _ rfl r.size (bytesV r.data.toList) (Src.string r) (by rw [bytesV_length]; simp) (bytesV_one _) (by simp only [maxLen]; omega) (by omega) ?_)
          intro v2 w4 hO2 hE2 hF2
          obtain ⟨hL2, hX2⟩ := LogAt.putBuf (L := ⟨first, n, start, start, 0, buf, []⟩) (buf' := buf ++ r.data.toList) KB.out K2.out fb G1.out G2.out GD.out (by rw [List.length_append, HRS.out]; simpa [bytesV] using hO2) hE2 hF2
          obtain ⟨b2, c2, hv2, _, _⟩ := hO2.shape
          have B2 := KB.out.ext hE2 (fun e => (G1.out _ e).2 rfl)
          have q7 := B2.cell (i := 7) rfl
          have s7 := B2.fr 7
          obtain ⟨W4, hW4⟩ : ∃ W, w4.setCell ⟨bl, 7, none⟩ v2 = W := ⟨_, rfl⟩
          rw [hW4] at hL2 hX2
          have X4 : Ext NoB w W4 := hE4.fsh hX2
          have KL4 := Lib.hid (hL2.mono (F' := Fsh NoB w) (fun k _ h => Fsh.up hE4.size k h))
          rw [hv2] at hW4 ⊢
          clear hv2 hL2 hX2 hO2 hE2 hF2 B2 c7 K1 K2 KB G1 G2 GD hE4 hE
          by_cases h54' : r.size < 54
          · have HG3 : Hid (buf ++ r.data.toList = rawBuf S first n start) := by have := HG2.out; rw [if_pos (by rw [HRS.out]; exact h54')] at this; exact this
            go_wp2_with fail
            go_meet
            refine ⟨?_, X4⟩
            rw [← HG3.out]
            exact KL4.out
          · have HG3 : Hid ((buf ++ r.data.toList) ++ gather S first n m (k + 1) = rawBuf S first n start) := by have := HG2.out; rw [if_neg (by rw [HRS.out]; exact h54'), ← List.append_assoc] at this; exact this
            go_wp2_with fail
            go_roundg m
            case measure => omega
            case rel => exact ⟨i + 1, buf ++ r.data.toList, by go_num, by omega, KL4.out, by show (buf ++ r.data.toList).length = _; rw [List.length_append, HRS.out, hbf.out]; omega, by rw [show q + (i + 1) = k + 1 by have := HK.out; omega]; exact HG3, X4⟩
      · obtain rfl : gk = 0 := by omega
        go_wp2_with fail
        go_meet
        refine ⟨?_, hE⟩
        have := hG.out
        rw [gather, List.append_nil] at this
        rw [← this]
        exact KL.out
  case rest =>
    obtain ⟨hLr, hEr⟩ := hcut
    have hrl := gather_le S first n n (start / 54)
    obtain ⟨raw, hraw⟩ : ∃ x, rawBuf S first n start = x := ⟨_, rfl⟩
    have hraw54 : raw.length ≤ 54 * n := by rw [← hraw]; exact hrl
    obtain ⟨⟨l2, e2⟩, hP⟩ : ∃ x, parse raw base raw.length start = x := ⟨_, rfl⟩
    rw [hraw] at hLr
    have hbs0 : base ≤ start := by have := HBS.out; have := HQ.out; omega
    have KLr := Lib.hid hLr
    have HRAW := Lib.hid hraw
    have HP := Lib.hid hP
    clear hLr hraw hP hrl KL0 KE0
    go_upto_block 2 with (fail)
    go_cut [] (fun wx => LogAt wx bl ⟨first, n, start, e2, 0, raw, l2⟩ bd (Fsh NoB w) ∧ Ext NoB w wx)
    case first =>
      go_wp2_with fail
      go_loopg [] raw.length (fun f wr => ∃ (e : Nat) (acc : List (Nat × ByteArray)), LogAt wr bl ⟨first, n, start, e, 0, raw, acc⟩ bd (Fsh NoB w) ∧ start ≤ e ∧ e ≤ start + raw.length ∧ raw.length ≤ e - base + f ∧ 3 * acc.length + start ≤ e ∧ Hid (acc ++ (parse raw base f e).1 = l2 ∧ (parse raw base f e).2 = e2) ∧ Ext NoB w wr)
      case atStart => exact ⟨start, [], KLr.out, Nat.le_refl _, by omega, by omega, by simp, by show _ ∧ _; rw [HP.out]; exact ⟨rfl, rfl⟩, hEr⟩
      case round =>
        obtain ⟨e, acc, hL, he1, he2, hfu, hac, hPr, hE⟩ := hrel
        obtain ⟨p, hp⟩ : ∃ x, e - base = x := ⟨_, rfl⟩
        have w1 : IntKind.i64.wrap ((e : Int) - (base : Int)) = (p : Int) := by rw [show (e : Int) - (base : Int) = (p : Int) by omega]; exact IntWalk.i64_in _ (by omega)
        have hpr : raw.length ≤ p + gk := by omega
        have hpe : e ≤ base + p := by omega
        have hpe2 : base + p ≤ e := by omega
        have HPE := Lib.hid hp
        have hsz : sizeAt raw base e = if raw.length < p + 2 then 0 else if raw.length < p + 2 + unle ((raw.drop p).take 2) then 0 else unle ((raw.drop p).take 2) := by unfold sizeAt; rw [hp]
        have HSZ := Lib.hid hsz
        have STOP : Hid (sizeAt raw base e = 0 → e = e2 ∧ acc = l2) := fun h => by
          have := hPr.out
          rw [parse_stop h, List.append_nil] at this
          exact ⟨this.2, this.1⟩
        clear hp hsz hfu
        have KL0 := Lib.hid hL
        obtain ⟨_, _, hb, _⟩ := hL
        rw [show (Lg.mk first n start e 0 raw acc).base = base by unfold Lg.base; rw [HQ.out, HBS.out]] at hb
        have c4 := hb.cell (i := 4) rfl
        have c6 := hb.cell (i := 6) rfl
        clear hb
        go_wp2_with fail
        go_quiet (fail)
        have hEq := hE.drewN nq
        have hL := KL0.out.ext (Ext.ofDrew wr nq) (fun _ _ _ => id)
        obtain ⟨wq, hwq⟩ : ∃ x, wr.drewN nq = x := ⟨_, rfl⟩
        rw [hwq] at hL hEq ⊢
        clear hE KL0 c4 c6 hwq w1
        have KL := Lib.hid hL
        obtain ⟨vb, vl, hb, k1, k2, fb, f1, f2, d⟩ := hL
        rw [show (Lg.mk first n start e 0 raw acc).base = base by unfold Lg.base; rw [HQ.out, HBS.out]] at hb
        obtain ⟨bb, cb, rfl, hcb1, hcb2⟩ := k1.shape
        obtain ⟨b8, cl8, rfl, _, _⟩ := k2.shape
        dsimp only at hb k1 k2 hcb1 f1 f2 d
        have c4 := hb.cell (i := 4) rfl
        have c6 := hb.cell (i := 6) rfl
        have c7 := hb.cell (i := 7) rfl
        have c8 := hb.cell (i := 8) rfl
        have HB := Lib.hid hb
        have K1 := Lib.hid k1
        have K2 := Lib.hid k2
        have G1 := Lib.hid f1
        have G2 := Lib.hid f2
        have GD := Lib.hid d
        clear hb k1 k2 f1 f2 d
        by_cases hA : raw.length < p + 2
        · have hA1 : (raw.length : Int) - 2 < (p : Int) := by omega
          have hA2 : decide ((raw.length : Int) - 2 < (p : Int)) = true := decide_eq_true hA1
          have hE2 := STOP.out (by rw [HSZ.out, if_pos hA])
          have HE2 := Lib.hid hE2
          clear hE2
          go_wp2_with fail
          go_meet
          obtain ⟨rfl, rfl⟩ := HE2.out
          exact ⟨KL.out, hEq⟩
        · have hA1 : ¬ (raw.length : Int) - 2 < (p : Int) := by omega
          have hA2 : decide ((raw.length : Int) - 2 < (p : Int)) = false := decide_eq_false hA1
          obtain ⟨g, cb', cur, hv, _, _, _, _, _, _⟩ := K1.out.pos (by omega)
          cases hv
          obtain ⟨p2, hp2⟩ : ∃ x, p + 2 = x := ⟨_, rfl⟩
          have hw2 : IntKind.i64.wrap ((p : Int) + 2) = (p2 : Int) := by rw [show (p : Int) + 2 = (p2 : Int) by omega]; exact IntWalk.i64_in _ (by omega)
          have he2' : (p : Int) + 2 = (p2 : Int) := by omega
          have hlh : (p : Int) ≤ p2 := by omega
          have hhc : (p2 : Int) ≤ cb := by omega
          have hlc : ¬ cb = p := by omega
          obtain ⟨s2, hs2⟩ : ∃ x : ByteArray, (⟨((raw.drop p).take 2).toArray⟩ : ByteArray) = x := ⟨_, rfl⟩
          have hcv : (convert 76 9 (.slice (some ⟨g, p, none⟩) (p2 - p) (cb - p))).run Try.prog wq = .ok (.string s2) wq := by
            have hb2 := (K1.out.window p 2).conv 76 9 5 Try.underlying76 Try.underlying5 Try.underlying9 (cb - p)
            rw [show ((raw.drop p).take 2).length = p2 - p by rw [List.length_take, List.length_drop]; omega, hs2] at hb2
            exact hb2
          have hs2s : s2.size = 2 := by rw [← hs2]; show (List.toArray _).size = 2; rw [List.size_toArray, List.length_take, List.length_drop]; omega
          obtain ⟨sz, hsz⟩ : ∃ x, unle ((raw.drop p).take 2) = x := ⟨_, rfl⟩
          have hsl : s2.data.toList = (raw.drop p).take 2 := by rw [← hs2]
          have hsz64 : sz ≤ 65535 := by rw [← hsz]; exact unle2_lt _ (by rw [List.length_take]; omega)
          have HV := Lib.hid (fun w => val_calls s2 (by omega) (by omega) w)
          rw [hsl, hsz] at HV
          have hsz' := HSZ.out
          rw [hsz, if_neg hA] at hsz'
          have HSZ2 := Lib.hid hsz'
          have HP2 := Lib.hid hp2
          clear hsz hsl hs2 hs2s hsz' hp2 HSZ
          go_wp2_with fail
          refine (HV.out _).mono ?_
          rintro e w3 ⟨rfl, rfl⟩
          by_cases hz : sz = 0
          · have hE2 := STOP.out (by rw [HSZ2.out, hz]; simp)
            have HE2 := Lib.hid hE2
            clear hE2
            subst hz
            go_wp2_with fail
            go_meet
            obtain ⟨rfl, rfl⟩ := HE2.out
            exact ⟨KL.out, hEq⟩
          · have hz1 : ((sz : Int) == 0) = false := by simp; omega
            have hw3 : IntKind.i64.wrap (sz : Int) = (sz : Int) := IntWalk.i64_in _ (by omega)
            clear hcv HV
            by_cases hB : raw.length < p + 2 + sz
            · have hB1 : (raw.length : Int) - (p : Int) - 2 < (sz : Int) := by omega
              have hB2 : decide ((raw.length : Int) - (p : Int) - 2 < (sz : Int)) = true := decide_eq_true hB1
              have hE2 := STOP.out (by rw [HSZ2.out, if_pos hB])
              have HE2 := Lib.hid hE2
              clear hE2
              go_wp2_with fail
              go_meet
              obtain ⟨rfl, rfl⟩ := HE2.out
              exact ⟨KL.out, hEq⟩
            · have hB1 : ¬ (raw.length : Int) - (p : Int) - 2 < (sz : Int) := by omega
              have hB2 : decide ((raw.length : Int) - (p : Int) - 2 < (sz : Int)) = false := decide_eq_false hB1
              have hse : sizeAt raw base e = sz := by rw [HSZ2.out, if_neg hB]
              obtain ⟨p3, hp3⟩ : ∃ x, p2 + sz = x := ⟨_, rfl⟩
              have hp2' := HP2.out
              have hw4 : IntKind.i64.wrap ((p2 : Int) + (sz : Int)) = (p3 : Int) := by rw [show (p2 : Int) + (sz : Int) = (p3 : Int) by omega]; exact IntWalk.i64_in _ (by omega)
              have he3' : (p2 : Int) + (sz : Int) = (p3 : Int) := by omega
              have hw5 : IntKind.i64.wrap (p2 : Int) = (p2 : Int) := IntWalk.i64_in _ (by omega)
              have hw6 : IntKind.i64.wrap (p3 : Int) = (p3 : Int) := IntWalk.i64_in _ (by omega)
              have hpp : p2 ≤ p3 := by omega
              have hpc : p3 ≤ cb := by omega
              have hmx : max (p3 : Int) 0 = (p3 : Int) := by omega
              have hlh3 : (p2 : Int) ≤ p3 := by omega
              have hhc3 : (p3 : Int) ≤ cb := by omega
              have hlc3 : ¬ cb = p2 := by omega
              obtain ⟨r, hrr⟩ : ∃ x : ByteArray, recAt raw base e = x := ⟨_, rfl⟩
              have hrs : r.size = sz := by rw [← hrr, recAt_size (by rw [hse]; exact hz), hse]
              obtain ⟨SA, hSA⟩ : ∃ x : Nat → Prop, (fun k => fp (.slice b8 acc.length cl8) = some k) = x := ⟨_, rfl⟩
              have hSA1 : ∀ k, SA k → fp (.slice b8 acc.length cl8) = some k := fun k h => by rw [← hSA] at h; exact h
              have hSA2 : ∀ k, fp (.slice b8 acc.length cl8) = some k → SA k := fun k h => by rw [← hSA]; exact h
              have nbl : ¬ SA bl := fun h => (G2.out _ (hSA1 _ h)).2 rfl
              have ng : ¬ SA g := fun h => GD.out g (by assumption) (hSA1 _ h)
              have hcv : ∀ w', Ext SA wq w' → (convert 76 9 (.slice (some ⟨g, p2, none⟩) (p3 - p2) (cb - p2))).run Try.prog w' = .ok (.string r) w' := fun w' e' => by
                have hb2 := ((K1.out.ext e' (fun k hk hx => GD.out k hk (hSA1 _ hx))).window p2 sz).conv 76 9 5 Try.underlying76 Try.underlying5 Try.underlying9 (cb - p2)
                rw [show ((raw.drop p2).take sz).length = p3 - p2 by rw [List.length_take, List.length_drop]; omega] at hb2
                rw [hb2, ← hrr]
                unfold recAt
                rw [hse, HPE.out, hp2']
              have KD := Lib.hid (show sizeAt raw base e = sz ∧ p2 + sz = p3 ∧ recAt raw base e = r ∧ r.size = sz from ⟨hse, hp3, hrr, hrs⟩)
              have n4 : acc.length ≤ 221184 := by omega
              clear hse hp3 hp2' hrr hrs HSZ2 STOP
              go_upto_region 17 with (fail)
              have n5 : 0 ≤ (sz : Int) := by omega
              go_cut [] (fun wx => LogAt wx bl ⟨first, n, start, e, 0, raw, acc ++ [(e, r)]⟩ bd (Fsh NoB w) ∧ Ext NoB w wx)
              case first =>
                have eB : (Lg.mk first n start e 0 raw acc).base = base := by unfold Lg.base; rw [HQ.out, HBS.out]
                have HEB := Lib.hid eB
                have c4' := fun w' (e' : Ext SA wq w') => (HB.out.ext e' nbl).cell (i := 4) rfl
                have c7' := fun w' (e' : Ext SA wq w') => (HB.out.ext e' nbl).cell (i := 7) rfl
                have c8' := fun w' (e' : Ext SA wq w') => (HB.out.ext e' nbl).cell (i := 8) rfl
                have hE0 : Ext SA wq wq.drew := (Ext.refl SA wq).drew
                have hEA : Ext SA wq (wq.alloc (.cells #[.int .i64 e, .string r] 86)).drew := ((Ext.refl SA wq).alloc _).drew
                have KA2 : Own (wq.alloc (.cells #[.int .i64 e, .string r] 86)).drew (.slice b8 acc.length cl8) 86 2 acc.length (softCells acc) := (K2.out.alloc _).drew
                have HS2 : Src Try.prog (wq.alloc (.cells #[.int .i64 e, .string r] 86)).drew 2 (.slice (some ⟨wq.heap.size, 0, none⟩) 1 1) 1 [.int .i64 e, .string r] := (Src.two (P := Try.prog) wq (.int .i64 e) (.string r) 86).drew
                have KAB := Lib.hid ((HB.out.alloc (.cells #[.int .i64 e, .string r] 86)).drew)
                have HKA := Lib.hid KA2
                have HHS := Lib.hid HS2
                clear KA2 HS2
                clear c4 c6 c7 c8 KL eB hSA
                have c4 := c4' wq (Ext.refl _ _)
                have c7 := c7' wq (Ext.refl _ _)
                have c8 := c8' wq (Ext.refl _ _)
                have hcv2 := hcv wq.drew hE0
                have hcv3 := hcv _ hEA
                have c4A := c4' _ ((Ext.refl SA wq).alloc (.cells #[.int .i64 e, .string r] 86))
                have c7A := c7' _ ((Ext.refl SA wq).alloc (.cells #[.int .i64 e, .string r] 86))
                have c8A := c8' _ ((Ext.refl SA wq).alloc (.cells #[.int .i64 e, .string r] 86))
                clear c4' c7' c8' hcv
                go_region_law (first | ((refine step_append_Own rfl _ _ 58 58 rfl 86 2 24 _ Try.underlying58 (.inl Try.underlying58) info86 rfl _ acc.length (softCells acc) rfl HKA.out _ rfl 1 [.int .i64 e, .string r] HHS.out rfl (by simp [Value.oneCell']) (by simp only [maxLen]; omega) (by omega) ?_; intro v5 w5 hO5 hE5 hF5; have hE05 : Ext SA wq w5 := hEA.trans hE5 (fun k _ hk => hSA2 k hk); have B5 := KAB.out.ext hE5 (fun e => (G2.out _ e).2 rfl); have q8 := B5.cell (i := 8) rfl; have s8 := B5.fr 8; obtain ⟨b5, c5, hv5, _, _⟩ := hO5.shape; rw [hv5] at hO5 hF5; rw [hv5]; clear hv5)))
                all_goals
                  have X := (hEq.alloc (.cells #[.int .i64 e, .string r] 86)).drew
                  have hPL := LogAt.putList (L := ⟨first, n, start, e, 0, raw, acc⟩) (list' := acc ++ [(e, r)]) (by rw [HEB.out]; exact KAB.out) (K1.out.alloc _).drew fb G1.out G2.out GD.out (by rw [List.length_append, softCells_snoc]; exact hO5) hE5 (fun k hk => hF5 k hk)
                  have KF1 := Lib.hid (hPL.1.mono (F' := Fsh NoB w) (fun k _ h => Fsh.up X.size k h))
                  have KF2 := Lib.hid (X.fsh hPL.2)
                  clear hPL X hO5 hE5 hF5
                  go_wp2_with fail
                  go_meet
                  exact ⟨KF1.out, KF2.out⟩
              case rest =>
                obtain ⟨hL5', X5⟩ := hcut
                have e4 : ((e + 2 + sz : Nat) : Int) = (e : Int) + (2 + (sz : Int)) := by omega
                obtain ⟨hL6, hX6⟩ := hL5'.putFin (e + 2 + sz)
                rw [e4] at hL6 hX6
                have c4n : wc.cell? ⟨bl, 4, none⟩ = some (.int .i64 e) := by obtain ⟨_, _, hb, _⟩ := hL5'; exact hb.cell rfl
                have r4n : wc.frozen? ⟨bl, 4, none⟩ = false := by obtain ⟨_, _, hb, _⟩ := hL5'; exact hb.fr 4
                have X6 := Lib.hid (X5.fsh hX6)
                have KL6 := Lib.hid hL6
                have hw7 : IntKind.i64.wrap (2 + (sz : Int)) = 2 + (sz : Int) := IntWalk.i64_in _ (by omega)
                clear hL6 hX6 hL5' e4 X5 c4 c6 c7 c8
                have n6 : 2 < gk := by omega
                have n7 : e ≤ base + p := hpe
                have n8 : base + p ≤ e := hpe2
                have n9 : p2 = p + 2 := by omega
                go_wp2_with fail
                obtain ⟨m, rfl⟩ : ∃ m, gk = m + 1 := ⟨gk - 1, by omega⟩
                go_roundg m
                case measure => omega
                case rel =>
                  refine ⟨e + 2 + sz, acc ++ [(e, r)], KL6.out, by omega, by omega, by omega, by rw [List.length_append]; simp only [List.length_cons, List.length_nil]; omega, ?_, X6.out⟩
                  have hh := hPr.out
                  rw [parse_go (by rw [KD.out.1]; exact hz), KD.out.1, KD.out.2.2.1] at hh
                  show _ ∧ _
                  rw [List.append_assoc]
                  exact hh
    case rest =>
      obtain ⟨hLr2, hEr2⟩ := hcut
      have hc2 := parse_spec raw base raw.length start hbs0
      rw [HP.out] at hc2
      obtain ⟨hch, hse1, hse2⟩ := hc2
      dsimp only at hch hse1 hse2
      obtain ⟨p, hp⟩ : ∃ x, e2 - base = x := ⟨_, rfl⟩
      have hpw : IntKind.i64.wrap ((e2 : Int) - (base : Int)) = (p : Int) := by rw [show (e2 : Int) - (base : Int) = (p : Int) by omega]; exact IntWalk.i64_in _ (by omega)
      have hpl2 : p ≤ 221184 := by omega
      have hpe1 : e2 ≤ base + p := by omega
      have hpe2 : base + p ≤ e2 := by omega
      have HCH := Lib.hid hch
      have HPP := Lib.hid hp
      have hbp : 0 ≤ (p : Int) := by omega
      have KL := Lib.hid hLr2
      obtain ⟨_, _, hb, _⟩ := hLr2
      rw [show (Lg.mk first n start e2 0 raw l2).base = base by unfold Lg.base; rw [HQ.out, HBS.out]] at hb
      have c4 := hb.cell (i := 4) rfl
      have c6 := hb.cell (i := 6) rfl
      clear hb hch hp
      go_wp2_with fail
      go_quiet (fail)
      have hE := hEr2.drewN nq
      have hL := KL.out.ext (Ext.ofDrew wc nq) (fun _ _ _ => id)
      obtain ⟨wq, hwq⟩ : ∃ x, wc.drewN nq = x := ⟨_, rfl⟩
      rw [hwq] at hL hE ⊢
      clear hwq hEr2 KL c4 c6 hpw
      have KL := Lib.hid hL
      obtain ⟨vb, vl, hb, k1, k2, fb, f1, f2, d⟩ := hL
      obtain ⟨bb, cb, rfl, hcb1, hcb2⟩ := k1.shape
      dsimp only at hcb1 k1 hb f1
      have c7 := hb.cell (i := 7) rfl
      have r7 := hb.fr 7
      have HB := Lib.hid hb
      have K1 := Lib.hid k1
      have K2 := Lib.hid k2
      have G1 := Lib.hid f1
      have G2 := Lib.hid f2
      have GD := Lib.hid d
      clear hb k1 k2 f1 f2 d
      go_upto_if 176 with (fail)
      go_cut [] (fun wx => LogAt wx bl ⟨first, n, start, e2, 0, raw.take p, l2⟩ bd (Fsh NoB w) ∧ Ext NoB w wx)
      case first =>
        by_cases hA : p < raw.length
        · have hA2 : decide ((p : Int) < (raw.length : Int)) = true := by simp; omega
          obtain ⟨g, cb', cur, hv, hfp, _, _, _, _, _⟩ := K1.out.pos (by omega)
          cases hv
          have hpc : (p : Int) ≤ cb := by omega
          have hcz : ¬ cb = 0 := by omega
          have HO := Lib.hid (K1.out.pre (m := p) (by omega) (by omega))
          have hmt : (raw.take p).length = p := by rw [List.length_take]; omega
          have hPB := LogAt.putBuf (L := ⟨first, n, start, e2, 0, raw, l2⟩) (buf' := raw.take p) HB.out K2.out fb G1.out G2.out GD.out (by rw [hmt, bytesV, List.map_take]; simpa [bytesV] using HO.out) (Ext.refl _ _) (fun k hk => .inl (by rw [← hk]; simp [fp, hcz]))
          have KF1 := Lib.hid (hPB.1.mono (F' := Fsh NoB w) (fun k _ h => Fsh.up hE.size k h))
          have KF2 := Lib.hid (hE.fsh hPB.2)
          clear hPB hmt
          go_wp2_with fail
          go_meet
          exact ⟨KF1.out, KF2.out⟩
        · have hA2 : decide ((p : Int) < (raw.length : Int)) = false := by simp; omega
          go_wp2_with fail
          go_meet
          refine ⟨?_, hE⟩
          rw [List.take_of_length_le (by omega)]
          exact KL.out
      case rest =>
        obtain ⟨hL, hE'⟩ := hcut
        have KLa := Lib.hid hL
        have KEa := Lib.hid hE'
        have hop : opened S first n start = ⟨first, n, start, e2, e2, raw.take p ++ List.replicate (p - raw.length) 0, l2⟩ := by
          unfold opened
          rw [HRAW.out, HQ.out, HBS.out, HP.out]
          dsimp only
          rw [HPP.out]
        have HOP := Lib.hid hop
        have hmt : (raw.take p).length = min p raw.length := List.length_take
        have HMT := Lib.hid hmt
        clear hL hE' hop hmt KL K1 K2 G1 G2 GD HB c7 r7
        go_wp2_with fail
        go_loopg [] (p - raw.length) (fun k wr => ∃ (j : Nat), j + k = p - raw.length ∧ LogAt wr bl ⟨first, n, start, e2, 0, raw.take p ++ List.replicate j 0, l2⟩ bd (Fsh NoB w) ∧ Ext NoB w wr)
        case atStart => exact ⟨0, Nat.zero_add _, by rw [List.replicate_zero, List.append_nil]; exact KLa.out, KEa.out⟩
        case round =>
          obtain ⟨j, hj, hL, hE⟩ := hrel
          obtain ⟨buf, hbuf⟩ : ∃ x, raw.take p ++ List.replicate j 0 = x := ⟨_, rfl⟩
          obtain ⟨bn, hbn⟩ : ∃ x, buf.length = x := ⟨_, rfl⟩
          have hbl1 : bn = min p raw.length + j := by rw [← hbn, ← hbuf, List.length_append, List.length_replicate, HMT.out]
          rw [hbuf] at hL
          have KL := Lib.hid hL
          have eB : (Lg.mk first n start e2 0 buf l2).base = base := by unfold Lg.base; rw [HQ.out, HBS.out]
          have HEB := Lib.hid eB
          obtain ⟨vb, vl, hb, k1, _⟩ := hL
          rw [eB] at hb
          obtain ⟨bb, cb, rfl, hcb1, hcb2⟩ := k1.shape
          dsimp only at hb k1 hcb1
          rw [hbn] at hb hcb1
          have c4 := hb.cell (i := 4) rfl
          have c6 := hb.cell (i := 6) rfl
          have c7 := hb.cell (i := 7) rfl
          have hpw : IntKind.i64.wrap ((e2 : Int) - (base : Int)) = (p : Int) := by rw [show (e2 : Int) - (base : Int) = (p : Int) by omega]; exact IntWalk.i64_in _ (by omega)
          have HBF := Lib.hid hbuf
          have HBN := Lib.hid hbn
          have hbl2 : bn ≤ min p raw.length + j := by omega
          have hbl3 : min p raw.length + j ≤ bn := by omega
          clear hb k1 eB hbuf hbn hbl1
          by_cases hlt : bn < p
          · have hltb : decide ((bn : Int) < (p : Int)) = true := by simp; omega
            go_wp2_with fail
            go_quiet (fail)
            have hE4 := hE.drewN nq
            have hL := KL.out.ext (Ext.ofDrew wr nq) (fun _ _ _ => id)
            obtain ⟨wq2, hwq⟩ : ∃ x, wr.drewN nq = x := ⟨_, rfl⟩
            rw [hwq] at hL hE4 ⊢
            clear hwq KL c4 c6 c7 hpw hE hcb1 hcb2
            obtain ⟨vb2, vl, hb, k1, k2, fb, f1, f2, d⟩ := hL
            obtain ⟨bb2, cb2, rfl, hcb1, hcb2⟩ := k1.shape
            dsimp only at hcb1 k1 hb f1 d
            rw [HEB.out, HBN.out] at hb
            rw [HBN.out] at k1 f1 d hcb1
            have c7 := hb.cell (i := 7) rfl
            have KB := Lib.hid hb
            have K1 := Lib.hid k1
            have K2 := Lib.hid k2
            have G1 := Lib.hid f1
            have G2 := Lib.hid f2
            have GD := Lib.hid d
            clear hb k1 k2 f1 f2 d
            go_wp2_with (at_builtin; refine wpList_append_Own rfl _ _ 76 76 rfl 5 1 1 _ Try.underlying76 (.inl Try.underlying76) info5 rfl _ bn (bytesV buf) rfl (K1.out.alloc _) _ rfl 1 [.int .u8 0] (Src.one _ _ _) rfl (by simp [Value.oneCell']) (by simp only [maxLen]; omega) (by omega) ?_)
            intro v2 w4 hO2 hE2 hF2
            have X : Ext NoB w (wq2.alloc (.cells #[.int .u8 0] 5)) := hE4.alloc _
            have hPB := LogAt.putBuf (L := ⟨first, n, start, e2, 0, buf, l2⟩) (buf' := buf ++ [0]) (by rw [HEB.out]; exact KB.out.alloc (.cells #[.int .u8 0] 5)) (K2.out.alloc _) fb G1.out G2.out GD.out (by rw [List.length_append, HBN.out]; simpa [bytesV] using hO2) hE2 (fun k hk => (hF2 k hk).imp id (fun h => by rw [World.size_alloc]; exact h))
            have B2 := (KB.out.alloc (.cells #[.int .u8 0] 5)).ext hE2 (fun e => (G1.out _ e).2 rfl)
            have q7 := B2.cell (i := 7) rfl
            have s7 := B2.fr 7
            obtain ⟨b2, c2, hv2, _, _⟩ := hO2.shape
            have KF1 := Lib.hid (hPB.1.mono (F' := Fsh NoB w) (fun k _ h => Fsh.up X.size k h))
            have KF2 := Lib.hid (X.fsh hPB.2)
            obtain ⟨W4, hW4⟩ : ∃ W, w4.setCell ⟨bl, 7, none⟩ v2 = W := ⟨_, rfl⟩
            rw [hW4] at KF1 KF2
            rw [hv2] at hW4 ⊢
            clear hv2 hPB hO2 hE2 hF2 B2 c7 KB K1 K2 G1 G2 GD X hE4
            go_wp2_with fail
            obtain ⟨m, rfl⟩ : ∃ m, gk = m + 1 := ⟨gk - 1, by omega⟩
            go_roundg m
            case measure => omega
            case rel => exact ⟨j + 1, by omega, by rw [List.replicate_succ', ← List.append_assoc, HBF.out]; exact KF1.out, KF2.out⟩
          · have hltb : decide ((bn : Int) < (p : Int)) = false := by simp; omega
            obtain rfl : j = p - raw.length := by omega
            have hbo : (Lg.mk first n start e2 e2 buf l2) = opened S first n start := by rw [HOP.out, ← HBF.out]
            go_wp2_with fail
            go_quiet (fail)
            have hE4 := hE.drewN nq
            have hL := KL.out.ext (Ext.ofDrew wr nq) (fun _ _ _ => id)
            obtain ⟨wq2, hwq⟩ : ∃ x, wr.drewN nq = x := ⟨_, rfl⟩
            rw [hwq] at hL hE4 ⊢
            clear hwq KL c4 c6 c7 hpw hE hcb1 hcb2
            have KL2 := Lib.hid hL
            obtain ⟨_, _, hb, _⟩ := hL
            dsimp only at hb
            have c4 := hb.cell (i := 4) rfl
            have c5 := hb.cell (i := 5) rfl
            have r5 := hb.fr 5
            clear hb
            have hL5 : LogAt (wq2.setCell ⟨bl, 5, none⟩ (.int .i64 e2)) bl ⟨first, n, start, e2, e2, buf, l2⟩ bd (Fsh NoB w) := (KL2.out.putFirm e2).1
            have hX5 := (KL2.out.putFirm e2).2
            rw [hbo] at hL5
            obtain ⟨W5, hW5⟩ : ∃ W, wq2.setCell ⟨bl, 5, none⟩ (.int .i64 e2) = W := ⟨_, rfl⟩
            rw [hW5] at hL5 hX5
            have X5 : Ext NoB w W5 := hE4.fsh hX5
            have KL5 := Lib.hid (hL5.mono (F' := fun k => w.heap.size ≤ k ∧ k < W5.heap.size) (fun k hk h => ⟨h.elim (fun h => h.elim) id, hk⟩))
            have hD5 : DiskAt W5 bd (Dk.fresh S) (fun k => FD k ∧ k < w.heap.size) := (HD.out.mono (fun k hk h => ⟨h, hk⟩)).ext X5 (fun _ _ _ => id)
            obtain ⟨L, hLdef⟩ : ∃ x, opened S first n start = x := ⟨_, rfl⟩
            have hokL : L.Ok := by rw [← hLdef]; exact opened_Ok S first n start (by omega) (by omega) (by omega) h54 h40
            have hLn : L.n = n := by rw [← hLdef]; rfl
            have hLf : L.first = first := by rw [← hLdef]; rfl
            rw [hLdef] at KL5
            have HWp := wipe_calls bl bd L (Dk.fresh S) _ _ W5 KL5.out hokL hD5 HDk.out rfl rfl (by rw [hLn, hLf]; show first + n ≤ S.length; omega) (by simp [Dk.fresh]) (fun k h h' => by omega)
            rw [hLn] at HWp
            have HWP := Lib.hid HWp
            have HLD := Lib.hid hLdef
            have HOK := Lib.hid hokL
            have HX5 := Lib.hid X5
            clear KL2 hL5 hX5 hE4 hD5 HWp hLdef hLn hLf hokL hbo HOP X5
            go_wp2_with fail
            refine HWP.out.mono ?_
            rintro e w6 ⟨rfl, hL6, hD6, hE6⟩
            have KL6 := Lib.hid hL6
            have KD6 := Lib.hid hD6
            have KE6 := Lib.hid (HX5.out.mono (S' := fun k => FD k ∧ k < w.heap.size) (fun _ _ h => h.elim) |>.trans hE6 (fun _ _ h => h))
            have hll := HOK.out.list_length
            obtain ⟨_, v8, hb, _, k2, _⟩ := hL6
            have c8 := hb.cell (i := 8) rfl
            have HCl := Lib.hid (clone_e_calls v8 L.list.length (softCells L.list) w6 (Own.win k2) (by omega) (softCells_one _))
            clear hb k2 hD6 hE6
            go_wp2_with fail
            refine HCl.out.mono ?_
            rintro e w7 ⟨v, rfl, hO7, hE7, hF7⟩
            have KL7 := Lib.hid (KL6.out.ext hE7 (fun _ _ _ => id))
            have KD7 := Lib.hid ((KD6.out.mono (F' := fun k => Fsh FD w k ∧ ¬ (w.heap.size ≤ k ∧ k < W5.heap.size)) (fun k _ h => h.elim (fun h => ⟨.inl h.1, fun h' => by omega⟩) (fun h => ⟨.inr (Nat.le_trans HX5.out.size h), fun h' => by omega⟩))).ext hE7 (fun _ _ _ => id))
            have KE7 := Lib.hid ((KE6.out.trans hE7 (fun _ _ h => h.elim)).mono (S' := FD) (fun _ _ h => h.1))
            have KO7 := Lib.hid hO7
            have KF7 : Hid (∀ k, fp v = some k → w.heap.size ≤ k) := fun k hk => Nat.le_trans KE6.out.size (hF7 k hk)
            clear hO7 hE7 hF7 c8
            go_wp2_with fail
            go_ret3
            refine ⟨bl, v, fun k => w.heap.size ≤ k ∧ k < W5.heap.size, rfl, fun k h => h.1, ?_, ?_, ?_, KF7.out, KE7.out⟩
            · rw [HLD.out]; exact KL7.out
            · rw [HLD.out]; exact KD7.out
            · rw [HLD.out]; exact KO7.out
end Go.Proofs.Ytdhklomnaodcnaa
