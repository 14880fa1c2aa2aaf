/- Both Creates: the walks. -/
import Derived.Test.YtdhklomnaodcnaaWipe
import Derived.Test.YtdhklomnaodcnaaRWipe
namespace Go.Proofs.Ytdhklomnaodcnaa
open Go.RowKit

/-- A device of so many sectors, k of them written with noughts, from first on. -/
def Dk.blanked (size first k : Nat) : Dk := ⟨List.replicate size blank, (List.range k).map (fun i => (first + i, blank)), -1, false⟩
theorem Dk.blanked_put (size first k : Nat) : (Dk.blanked size first k).put (first + k) blank = Dk.blanked size first (k + 1) := by
  simp [Dk.put, Dk.blanked, Dk.less, List.range_succ]
theorem blank_size : blank.size = 64 := rfl
theorem Dk.blanked_Ok (size first k : Nat) (hs : size ≤ 5000) (hk : first + k ≤ size) : (Dk.blanked size first k).Ok := by
  refine ⟨by simp [Dk.blanked], by simp [Dk.blanked], by simpa [Dk.blanked] using hs, ?_, ?_, ?_⟩
  · simp [Dk.blanked]; omega
  · intro s h
    rw [(List.mem_replicate.1 h).2]; rfl
  · intro p h
    obtain ⟨i, hi, rfl⟩ := List.mem_map.1 h
    have := List.mem_range.1 hi
    exact ⟨rfl, by simp [Dk.blanked]; omega⟩
theorem Dk.blanked_seen (size first k : Nat) : (Dk.blanked size first k).seen = List.replicate size blank := by
  induction k with
  | zero => rfl
  | succ k ih => rw [← Dk.blanked_put, Dk.put_seen, ih, List.set_replicate_self]
theorem Dk.blanked_flat (size first k : Nat) : (Dk.blanked size first k).flat = Dk.fresh (List.replicate size blank) := by
  unfold Dk.flat
  rw [Dk.blanked_seen]; rfl
/-- An empty log. -/
def Lg.new (first n : Nat) : Lg := ⟨first, n, 54, 54, 54, [], []⟩
theorem Lg.new_Ok (first n : Nat) (h1 : 128 ≤ n) (h2 : n ≤ 4096) (h3 : first + n ≤ 5000) : (Lg.new first n).Ok :=
  ⟨h1, h2, h3, Nat.le_refl _, Nat.le_refl _, Nat.le_refl _, by simp [Lg.new], by simp [Lg.new, Lg.base], by simp [Lg.new], rfl⟩
theorem Lg.new_base (first n : Nat) : (Lg.new first n).base = 54 := by simp [Lg.new, Lg.base]

theorem DiskAt.firmCell {w : World} {b : Nat} {D : Dk} {F : Nat → Prop} (h : DiskAt w b D F) : ∃ a c, w.cell? ⟨b, 0, none⟩ = some (.slice a D.firm.length c) := by
  obtain ⟨vf, vs, vn, hb, h1, _⟩ := h
  obtain ⟨base, cap, rfl, _, _⟩ := h1.shape
  exact ⟨base, cap, hb.cell rfl⟩

set_option maxHeartbeats 2000000 in
set_option maxRecDepth 100000 in
theorem create_no (bd size : Nat) (D : Dk) (FD : Nat → Prop) (w : World) (hd : DiskAt w bd D FD) (hl : D.firm.length = size) (hs : size ≤ 5000) (first n : Int) (hr : ¬ RingOk size first n) :
    Calls Try.prog 7 #[.pointer (some ⟨bd, 0, none⟩), .int .i64 first, .int .i64 n] w fun e w' => e = .returned (.tuple #[.pointer none, .int .i64 1]) ∧ w = w' := by
  obtain ⟨a, c, hc⟩ := hd.firmCell
  rw [hl] at hc
  have HR := Lib.hid (ring_calls size hs first n bd a c w hc)
  rw [decide_eq_false hr] at HR
  clear hc hl hd
  go_enter Try.func7, Try.ntmps7
  go_wp2_with fail
  refine HR.out.mono ?_
  rintro e w1 ⟨rfl, rfl⟩
  go_wp2_with fail
  go_ret2
  exact ⟨rfl, rfl⟩

set_option maxHeartbeats 2000000 in
set_option maxRecDepth 100000 in
theorem create_yes (bd size : Nat) (FD : Nat → Prop) (w : World) (hd : DiskAt w bd (Dk.fresh (List.replicate size blank)) FD) (hs : size ≤ 5000) (first n : Nat) (hr : RingOk size first n) :
    Calls Try.prog 7 #[.pointer (some ⟨bd, 0, none⟩), .int .i64 first, .int .i64 n] w fun e w' => ∃ bl, e = .returned (.tuple #[.pointer (some ⟨bl, 0, none⟩), .int .i64 0]) ∧ w.heap.size ≤ bl ∧ LogAt w' bl (Lg.new first n) bd (fun k => k = bl) ∧ DiskAt w' bd (Dk.fresh (List.replicate size blank)) (fun k => Fsh FD w k ∧ k ≠ bl) ∧ Ext FD w w' := by
  obtain ⟨a, c, hc⟩ := hd.firmCell
  rw [show (Dk.fresh (List.replicate size blank)).firm.length = size by simp [Dk.fresh]] at hc
  have HR := Lib.hid (ring_calls size hs first n bd a c w hc)
  rw [decide_eq_true hr] at HR
  obtain ⟨r1, r2, r3, r4⟩ := hr
  have HD := Lib.hid hd
  obtain ⟨bk, hbk⟩ : ∃ x, blank = x := ⟨_, rfl⟩
  have HBK := Lib.hid hbk
  have HP := Lib.hid (fun w => Try.strings_Repeat ⟨#[0]⟩ 64 w (by omega) (by show 1 * _ ≤ _; omega))
  rw [show (⟨(Lib.repeatL (⟨#[0]⟩ : ByteArray).data.toList 64).toArray⟩ : ByteArray) = bk by rw [← hbk]; show (⟨(Lib.repeatL [0] 64).toArray⟩ : ByteArray) = _; rw [repeatL_zero]; rfl] at HP
  clear hc hd hbk
  go_enter Try.func7, Try.ntmps7
  go_wp2_with fail
  refine HR.out.mono ?_
  rintro e w1 ⟨rfl, rfl⟩
  go_wp2_with fail
  refine (HP.out _).mono ?_
  rintro e w1 ⟨rfl, hb1⟩
  have E1 : Ext FD w w1 := (Ext.refl FD w).bel hb1
  have D1 : Hid (DiskAt w1 bd (Dk.blanked size first 0) FD) := HD.out.ext ((Ext.refl NoB w).bel hb1) (fun _ _ _ => id)
  clear hb1
  go_wp2_with fail
  go_loopw [19] (fun v19 wr => ∃ (i : Nat), v19 = .int .i64 i ∧ i ≤ n ∧ DiskAt wr bd (Dk.blanked size first i) (Fsh FD w) ∧ Ext FD w wr) (fun v19 _ => n - (intOf v19).toNat)
  case atStart => exact ⟨0, rfl, Nat.zero_le _, D1.out.mono (fun _ _ h => .inl h), E1⟩
  case round =>
    obtain ⟨i, rfl, hin, hDi, hE⟩ := hrel
    have KD := Lib.hid hDi
    clear hDi
    have hOk := Lib.hid (Dk.blanked_Ok size first i hs (by omega))
    by_cases hlt : i < n
    · have hltb : decide ((i : Int) < (n : Int)) = true := by simp; omega
      obtain ⟨j, hj⟩ : ∃ x, first + i = x := ⟨_, rfl⟩
      have w1' : IntKind.i64.wrap ((first : Int) + (i : Int)) = (j : Int) := by rw [show (first : Int) + (i : Int) = (j : Int) by omega]; exact IntWalk.i64_in _ (by omega)
      have w2 : IntKind.i64.wrap ((i : Int) + 1) = (i : Int) + 1 := IntWalk.i64_in _ (by omega)
      have hput := Dk.blanked_put size first i
      rw [HBK.out, hj] at hput
      have hsf : (Dk.blanked size first i).soft.length = i := by simp [Dk.blanked]
      have hfl : (Dk.blanked size first i).firm.length = size := by simp [Dk.blanked]
      have hb64 : bk.size = 64 := by rw [← HBK.out]; rfl
      have HWr := Lib.hid (write_calls bd _ _ wr KD.out hOk.out (by omega) j (by omega) (by omega) bk (by omega) 0 _ (Dk.write_put rfl rfl (by omega) hb64))
      rw [hput] at HWr
      clear hput hsf hfl hj
      go_wp2_with fail
      refine HWr.out.mono ?_
      rintro e w5 ⟨rfl, hD5, hE6⟩
      have hE7 := Lib.hid (hE.fsh hE6)
      have D5 := Lib.hid (hD5.mono (F' := Fsh FD w) (fun k _ h => h.elim id (fun h => .inr (Nat.le_trans hE.size h))))
      clear hD5 hE6 HWr
      go_wp2_with fail
      go_roundw
      case rel => exact ⟨i + 1, by go_num, by omega, D5.out, hE7.out⟩
      case measure => simp [intOf]; omega
    · have hltb : decide ((i : Int) < (n : Int)) = false := by simp; omega
      have hfl : (Dk.blanked size first i).firm.length = size := by simp [Dk.blanked]
      have HB := Lib.hid (barrier_calls bd _ _ _ KD.out hOk.out (by omega) 0 _ (Dk.barrier_flat rfl rfl))
      rw [Dk.blanked_flat] at HB
      clear hfl
      go_wp2_with fail
      refine HB.out.mono ?_
      rintro e w5 ⟨rfl, hD5, hE6⟩
      have hE7 := Lib.hid (hE.fsh hE6)
      have D5 := Lib.hid hD5
      have hz : w.heap.size ≤ w5.heap.size := hE7.out.size
      have KEY : Hid (LogAt (w5.alloc (.cells #[.pointer (some ⟨bd, 0, none⟩), .int .i64 first, .int .i64 n, .int .i64 54, .int .i64 54, .int .i64 54, .int .i64 54, .slice none 0 0, .slice none 0 0] 83)) w5.heap.size (Lg.new first n) bd (fun k => k = w5.heap.size)) :=
        ⟨.slice none 0 0, .slice none 0 0, by rw [Lg.new_base]; exact Blk.new w5 [.pointer (some ⟨bd, 0, none⟩), .int .i64 first, .int .i64 n, .int .i64 54, .int .i64 54, .int .i64 54, .int .i64 54, .slice none 0 0, .slice none 0 0] 83, Own.nil _ _ _, Own.nil _ _ _, rfl, fun k h => by simp [fp] at h, fun k h => by simp [fp] at h, fun k h => by simp [fp] at h⟩
      have D6 := Lib.hid ((D5.out.mono (F' := fun k => Fsh FD w k ∧ k ≠ w5.heap.size) (fun k hk h => ⟨h, by omega⟩)).ext ((Ext.refl NoB w5).alloc (.cells #[.pointer (some ⟨bd, 0, none⟩), .int .i64 first, .int .i64 n, .int .i64 54, .int .i64 54, .int .i64 54, .int .i64 54, .slice none 0 0, .slice none 0 0] 83)) (fun _ _ _ => id))
      have KE := Lib.hid (hE7.out.alloc (.cells #[.pointer (some ⟨bd, 0, none⟩), .int .i64 first, .int .i64 n, .int .i64 54, .int .i64 54, .int .i64 54, .int .i64 54, .slice none 0 0, .slice none 0 0] 83))
      clear hD5 hE6 hE
      go_wp2_with fail
      go_ret2
      exact ⟨_, rfl, hz, KEY.out, D6.out, KE.out⟩

set_option maxHeartbeats 2000000 in
set_option maxRecDepth 100000 in
theorem rcreate_yes (bd size : Nat) (FD : Nat → Prop) (w : World) (hd : RDiskAt w bd (Dk.fresh (List.replicate size blank)) FD) (hs : size ≤ 5000) (first n : Nat) (hr : RingOk size first n) :
    Calls Try.prog 9 #[.pointer (some ⟨bd, 0, none⟩), .int .i64 first, .int .i64 n] w fun e w' => ∃ bl, e = .returned (.tuple #[.pointer (some ⟨bl, 0, none⟩), .int .i64 0]) ∧ w.heap.size ≤ bl ∧ RLogAt w' bl (Lg.new first n) bd (fun k => k = bl) ∧ RDiskAt w' bd (Dk.fresh (List.replicate size blank)) (fun k => Fsh FD w k ∧ k ≠ bl) ∧ Ext FD w w' := by
  obtain ⟨r1, r2, r3, r4⟩ := hr
  have HD : Hid (RDiskAt w bd (Dk.blanked size first 0) FD) := hd
  obtain ⟨bk, hbk⟩ : ∃ x, blank = x := ⟨_, rfl⟩
  have HBK := Lib.hid hbk
  have HP := Lib.hid (fun w => blank_calls w)
  rw [hbk] at HP
  clear hd hbk
  go_enter Try.func9, Try.ntmps9
  go_wp2_with fail
  go_loopw [8] (fun v8 wr => ∃ (i : Nat), v8 = .int .i64 i ∧ i ≤ n ∧ RDiskAt wr bd (Dk.blanked size first i) (Fsh FD w) ∧ Ext FD w wr) (fun v8 _ => n - (intOf v8).toNat)
  case atStart => exact ⟨0, rfl, Nat.zero_le _, HD.out.mono (fun _ _ h => .inl h), Ext.refl _ _⟩
  case round =>
    obtain ⟨i, rfl, hin, hDi, hE⟩ := hrel
    have KD := Lib.hid hDi
    clear hDi
    have hOk := Lib.hid (Dk.blanked_Ok size first i hs (by omega))
    by_cases hlt : i < n
    · have hltb : decide ((i : Int) < (n : Int)) = true := by simp; omega
      obtain ⟨j, hj⟩ : ∃ x, first + i = x := ⟨_, rfl⟩
      have w1' : IntKind.i64.wrap ((first : Int) + (i : Int)) = (j : Int) := by rw [show (first : Int) + (i : Int) = (j : Int) by omega]; exact IntWalk.i64_in _ (by omega)
      have w2 : IntKind.i64.wrap ((i : Int) + 1) = (i : Int) + 1 := IntWalk.i64_in _ (by omega)
      have hput := Dk.blanked_put size first i
      rw [HBK.out, hj] at hput
      have hsf : (Dk.blanked size first i).soft.length = i := by simp [Dk.blanked]
      have hfl : (Dk.blanked size first i).firm.length = size := by simp [Dk.blanked]
      have hb64 : bk.size = 64 := by rw [← HBK.out]; rfl
      have HWr := Lib.hid (fun W (h : RDiskAt W bd (Dk.blanked size first i) (Fsh FD w)) => rwrite_calls bd _ _ W h hOk.out (by omega) j (by omega) (by omega) bk (by omega) 0 _ (Dk.write_put rfl rfl (by omega) hb64))
      rw [hput] at HWr
      clear hput hsf hfl hj
      go_wp2_with fail
      refine (HP.out _).mono ?_
      rintro e w3 ⟨rfl, hE3⟩
      have KD3 := KD.out.ext hE3 (fun _ _ _ => id)
      have hE4 := hE.trans hE3 (fun _ _ h => h.elim)
      clear hE3
      have HWR := Lib.hid (HWr.out _ KD3)
      clear KD3 HWr
      go_wp2_with fail
      refine HWR.out.mono ?_
      rintro e w5 ⟨rfl, hD5, hE6⟩
      have hE7 := Lib.hid (hE4.fsh hE6)
      have D5 := Lib.hid (hD5.mono (F' := Fsh FD w) (fun k _ h => h.elim id (fun h => .inr (Nat.le_trans hE4.size h))))
      clear hD5 hE6 HWR
      go_wp2_with fail
      go_roundw
      case rel => exact ⟨i + 1, by go_num, by omega, D5.out, hE7.out⟩
      case measure => simp [intOf]; omega
    · have hltb : decide ((i : Int) < (n : Int)) = false := by simp; omega
      have HB := Lib.hid (rbarrier_calls bd _ _ _ KD.out hOk.out 0 _ (Dk.barrier_flat rfl rfl))
      rw [Dk.blanked_flat] at HB
      go_wp2_with fail
      refine HB.out.mono ?_
      rintro e w5 ⟨rfl, hD5, hE6⟩
      have hE7 := Lib.hid (hE.fsh hE6)
      have D5 := Lib.hid hD5
      have hz : w.heap.size ≤ w5.heap.size := hE7.out.size
      have KEY : Hid (RLogAt (w5.alloc (.cells #[.pointer (some ⟨bd, 0, none⟩), .int .i64 first, .int .i64 n, .int .i64 54, .int .i64 54, .int .i64 54, .string ⟨#[]⟩, .slice none 0 0] 60)) w5.heap.size (Lg.new first n) bd (fun k => k = w5.heap.size)) :=
        ⟨.slice none 0 0, Blk.new w5 [.pointer (some ⟨bd, 0, none⟩), .int .i64 first, .int .i64 n, .int .i64 54, .int .i64 54, .int .i64 54, .string ⟨#[]⟩, .slice none 0 0] 60, Own.nil _ _ _, rfl, fun k h => by simp [fp] at h⟩
      have D6 := Lib.hid ((D5.out.mono (F' := fun k => Fsh FD w k ∧ k ≠ w5.heap.size) (fun k hk h => ⟨h, by omega⟩)).ext ((Ext.refl NoB w5).alloc (.cells #[.pointer (some ⟨bd, 0, none⟩), .int .i64 first, .int .i64 n, .int .i64 54, .int .i64 54, .int .i64 54, .string ⟨#[]⟩, .slice none 0 0] 60)) (fun _ _ _ => id))
      have KE := Lib.hid (hE7.out.alloc (.cells #[.pointer (some ⟨bd, 0, none⟩), .int .i64 first, .int .i64 n, .int .i64 54, .int .i64 54, .int .i64 54, .string ⟨#[]⟩, .slice none 0 0] 60))
      clear hD5 hE6 hE
      go_wp2_with fail
      go_ret2
      exact ⟨_, rfl, hz, KEY.out, D6.out, KE.out⟩
end Go.Proofs.Ytdhklomnaodcnaa
