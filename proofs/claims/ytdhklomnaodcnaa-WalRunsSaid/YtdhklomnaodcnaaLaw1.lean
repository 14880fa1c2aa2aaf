/- The law's small functions: place, refused, ringed; Same; Open where the start is none; the walks. -/
import Derived.Test.YtdhklomnaodcnaaCr
import Derived.Test.YtdhklomnaodcnaaRead
import Derived.Deep.QuietTactic
import Derived.BigQuiet

namespace Go.Proofs.Ytdhklomnaodcnaa
open Go.RowKit

/-- The place that a call means. -/
def Lg.place (L : Lg) (t : Int) (raw : Bool) : Int :=
  if raw = false ∧ 0 ≤ t ∧ t < L.list.length then ((L.list.getD t.toNat (0, ⟨#[]⟩)).1 : Int)
  else if raw = false ∧ t = L.list.length then (L.fin : Int) else t

set_option maxHeartbeats 2000000 in
set_option maxRecDepth 100000 in
theorem open_no (bd size : Nat) (D : Dk) (FD : Nat → Prop) (w : World) (hd : DiskAt w bd D FD) (hl : D.firm.length = size) (hs : size ≤ 5000) (first n start : Int) (hr : RingOk size first n) (hb : start < 54 ∨ 1099511627776 < start) :
    Calls Try.prog 24 #[.pointer (some ⟨bd, 0, none⟩), .int .i64 first, .int .i64 n, .int .i64 start] w fun e w' => e = .returned (.tuple #[.pointer none, .slice none 0 0, .int .i64 1]) ∧ w = w' := by
  obtain ⟨a, c, hc⟩ := hd.firmCell
  rw [hl] at hc
  have HR := Lib.hid (ring_calls size hs first n bd a c w hc)
  rw [decide_eq_true hr] at HR
  clear hc hl hd hr
  by_cases h54 : start < 54
  · have h1 : decide (start < 54) = true := decide_eq_true h54
    clear hb
    go_enter Try.func24, Try.ntmps24
    go_wp2_with fail
    refine HR.out.mono ?_
    rintro e w1 ⟨rfl, rfl⟩
    go_wp2_with fail
    go_ret3
    exact ⟨rfl, rfl⟩
  · have h1 : decide (start < 54) = false := decide_eq_false h54
    have h2 : 1099511627776 < start := hb.resolve_left h54
    have h3 : decide (1099511627776 < start) = true := decide_eq_true h2
    clear hb
    go_enter Try.func24, Try.ntmps24
    go_wp2_with fail
    refine HR.out.mono ?_
    rintro e w1 ⟨rfl, rfl⟩
    go_wp2_with fail
    go_ret3
    exact ⟨rfl, rfl⟩

set_option maxHeartbeats 2000000 in
set_option maxRecDepth 100000 in
theorem refused_calls (bd size : Nat) (D : Dk) (FD : Nat → Prop) (w : World) (hd : DiskAt w bd D FD) (hl : D.firm.length = size) (hs : size ≤ 5000) (first n start : Int) (hr : RingOk size first n) (hb : start < 54 ∨ 1099511627776 < start) :
    Calls Try.prog 22 #[.pointer (some ⟨bd, 0, none⟩), .int .i64 first, .int .i64 n, .int .i64 start] w fun e w' => e = .returned (.bool true) ∧ w = w' := by
  have HO := Lib.hid (open_no bd size D FD w hd hl hs first n start hr hb)
  clear hd hl hs hr hb
  go_enter Try.func22, Try.ntmps22
  go_wp2_with fail
  refine HO.out.mono ?_
  rintro e w1 ⟨rfl, rfl⟩
  go_wp2_with fail
  go_ret
  exact ⟨rfl, rfl⟩

set_option maxHeartbeats 2000000 in
set_option maxRecDepth 100000 in
theorem ringed_calls (bd rd : Nat) (D : Dk) (FD GD : Nat → Prop) (w : World) (hd : DiskAt w bd D FD) (hg : RDiskAt w rd D GD) (hok : D.Ok) (first n : Nat) (hn : n ≤ 5000) (hf : first ≤ 5000) :
    Calls Try.prog 23 #[.pointer (some ⟨bd, 0, none⟩), .pointer (some ⟨rd, 0, none⟩), .int .i64 first, .int .i64 n] w fun e w' => e = .returned (.bool true) ∧ w = w' := by
  have HD := Lib.hid hd
  have HG := Lib.hid hg
  clear hd hg
  go_enter Try.func23, Try.ntmps23
  go_wp2_with fail
  go_loop [9] (fun v9 => ∃ (i : Nat), v9 = .int .i64 i ∧ i ≤ n) (fun v9 => n - (intOf v9).toNat)
  case atStart => exact ⟨0, rfl, Nat.zero_le _⟩
  case round =>
    obtain ⟨i, rfl, hin⟩ := hrel
    by_cases hlt : i < n
    · have hltb : decide ((i : Int) < (n : Int)) = true := by simp; omega
      obtain ⟨j, hj⟩ : ∃ x, first + i = x := ⟨_, rfl⟩
      have w1 : IntKind.i64.wrap ((first : Int) + (i : Int)) = (j : Int) := by rw [show (first : Int) + (i : Int) = (j : Int) by omega]; exact IntWalk.i64_in _ (by omega)
      have w2 : IntKind.i64.wrap ((i : Int) + 1) = (i : Int) + 1 := IntWalk.i64_in _ (by omega)
      obtain ⟨s, c, hr⟩ : ∃ s c, (s, c) = D.read (j : Int) := ⟨_, _, rfl⟩
      have H1 := Lib.hid (read_calls bd D FD w HD.out hok j (by omega) (by omega) s c hr)
      have H2 := Lib.hid (rread_calls rd D GD w HG.out hok j (by omega) (by omega) s c hr.symm)
      have hb1 : (s == s) = true := (Go.MapKept.bytes_beq s s).2 rfl
      have hb2 : (s != s) = false := by unfold bne; rw [hb1]; rfl
      clear hj hr
      go_wp2_with fail
      refine H1.out.mono ?_
      rintro e w1 ⟨rfl, rfl⟩
      go_wp2_with fail
      refine H2.out.mono ?_
      rintro e w1 ⟨rfl, rfl⟩
      go_wp2_with fail
      go_round
      case rel => exact ⟨i + 1, by go_num, by omega⟩
      case measure => simp [intOf]; omega
    · have hltb : decide ((i : Int) < (n : Int)) = false := by simp; omega
      go_wp2_with fail
      go_ret
      exact ⟨rfl, rfl⟩
end Go.Proofs.Ytdhklomnaodcnaa

namespace Go.Proofs.Ytdhklomnaodcnaa
open Go.RowKit

set_option maxHeartbeats 4000000 in
set_option maxRecDepth 100000 in
theorem place_calls (b bd : Nat) (L : Lg) (F : Nat → Prop) (w : World) (h : RLogAt w b L bd F) (hok : L.Ok) (kind : Int) (text : ByteArray) (t : Int) (raw : Bool) (kv : Value) (h0 : -9223372036854775808 ≤ t) (h1 : t ≤ 9223372036854775807) :
    Calls Try.prog 10 #[.pointer (some ⟨b, 0, none⟩), .agg #[.int .i64 kind, .string text, .int .i64 t, .bool raw, kv]] w fun e w' => e = .returned (.int .i64 (L.place t raw)) ∧ Ext NoB w w' := by
  have hll := hok.list_length
  obtain ⟨vl, hb, k2, fb, f2⟩ := h
  obtain ⟨b8, c8, hv8, _, _⟩ := k2.shape
  rw [hv8] at hb k2
  have c7 := hb.cell (i := 7) rfl
  have c4 := hb.cell (i := 4) rfl
  have d7 := (hb.alloc (.cells #[.int .i64 kind, .string text, .int .i64 t, .bool raw, kv] 41)).cell (i := 7) rfl
  have d4 := (hb.alloc (.cells #[.int .i64 kind, .string text, .int .i64 t, .bool raw, kv] 41)).cell (i := 4) rfl
  have X := Lib.hid ((Ext.refl NoB w).alloc (.cells #[.int .i64 kind, .string text, .int .i64 t, .bool raw, kv] 41))
  have K2 := Lib.hid k2
  obtain ⟨ln, hln⟩ : ∃ x, L.list.length = x := ⟨_, rfl⟩
  have HLN := Lib.hid hln
  have hb4 : kv = kv := rfl
  clear hb k2 fb f2 hv8 hb4
  unfold Lg.place
  rw [hln] at c7 d7 hll ⊢
  clear hln
  cases raw with
  | true =>
    rw [if_neg (by simp), if_neg (by simp)]
    go_enter Try.func10, Try.ntmps10
    go_wp2_with fail
    go_quiet (fail)
    go_wp2_with fail
    go_quiet (fail)
    go_wp2_with fail
    go_ret
    first | exact ⟨rfl, (X.out.drewN _)⟩ | exact ⟨rfl, (X.out.drewN _).drewN _⟩
  | false =>
    by_cases n0 : 0 ≤ t
    · have m0 : decide (0 ≤ t) = true := decide_eq_true n0
      by_cases n1 : t < ln
      · have m1 : decide (t < (ln : Int)) = true := decide_eq_true n1
        rw [if_pos ⟨rfl, n0, n1⟩]
        obtain ⟨k, rfl⟩ : ∃ k : Nat, t = (k : Int) := ⟨t.toNat, by omega⟩
        have hk : k < ln := by omega
        have hk' : k < L.list.length := by rw [HLN.out]; exact hk
        obtain ⟨g, cap, cur, hv, _, hB, _, _, _, _⟩ := K2.out.pos (by omega)
        rw [HLN.out] at hv
        cases hv
        have HK := K2.out
        have e0 := (HK.alloc (.cells #[.int .i64 kind, .string text, .int .i64 k, .bool false, kv] 41)).cell rfl (softCells_fst L.list k hk')
        rw [Nat.mul_comm 2 k] at e0
        have hgd : (L.list.getD (k : Int).toNat (0, ⟨#[]⟩)).1 = L.list[k].1 := by
          rw [Int.toNat_natCast, List.getD_eq_getElem?_getD, List.getElem?_eq_getElem hk']; rfl
        rw [hgd]
        generalize L.list[k].1 = x at *
        clear HK hgd hB
        go_enter Try.func10, Try.ntmps10
        go_wp2_with fail
        go_quiet (fail)
        go_wp2_with fail
        go_quiet (fail)
        go_wp2_with fail
        go_ret
        first | exact ⟨rfl, (X.out.drewN _)⟩ | exact ⟨rfl, (X.out.drewN _).drewN _⟩
      · have m1 : decide (t < (ln : Int)) = false := decide_eq_false n1
        rw [if_neg (fun h => n1 h.2.2)]
        by_cases n2 : t = ln
        · rw [if_pos ⟨rfl, n2⟩]
          have m2 : ((ln : Int) == (ln : Int)) = true := by simp
          subst n2
          go_enter Try.func10, Try.ntmps10
          go_wp2_with fail
          go_quiet (fail)
          go_wp2_with fail
          go_quiet (fail)
          go_wp2_with fail
          go_ret
          first | exact ⟨rfl, (X.out.drewN _)⟩ | exact ⟨rfl, (X.out.drewN _).drewN _⟩
        · rw [if_neg (fun h => n2 h.2)]
          have m2 : (t == (ln : Int)) = false := by simp [n2]
          go_enter Try.func10, Try.ntmps10
          go_wp2_with fail
          go_quiet (fail)
          go_wp2_with fail
          go_quiet (fail)
          go_wp2_with fail
          go_ret
          first | exact ⟨rfl, (X.out.drewN _)⟩ | exact ⟨rfl, (X.out.drewN _).drewN _⟩
    · have m0 : decide (0 ≤ t) = false := decide_eq_false n0
      have n2 : ¬ t = ln := by omega
      rw [if_neg (fun h => n0 h.2.1), if_neg (fun h => n2 h.2)]
      have m2 : (t == (ln : Int)) = false := by simp [n2]
      go_enter Try.func10, Try.ntmps10
      go_wp2_with fail
      go_quiet (fail)
      go_wp2_with fail
      go_quiet (fail)
      go_wp2_with fail
      go_ret
      first | exact ⟨rfl, (X.out.drewN _)⟩ | exact ⟨rfl, (X.out.drewN _).drewN _⟩
end Go.Proofs.Ytdhklomnaodcnaa

namespace Go.Proofs.Ytdhklomnaodcnaa
open Go.RowKit

set_option maxHeartbeats 2000000 in
set_option maxRecDepth 100000 in
theorem same_calls (va vb : Value) (l : List (Nat × ByteArray)) (hl : l.length ≤ 1000000) (w : World) (ha : Own w va 86 2 l.length (softCells l)) (hb : Own w vb 86 2 l.length (softCells l)) :
    Calls Try.prog 26 #[va, vb] w fun e w' => e = .returned (.bool true) ∧ ∃ n, w' = w.drewN n := by
  obtain ⟨ba, ca, rfl, ha1, ha2⟩ := ha.shape
  obtain ⟨bb, cb, rfl, hb1, hb2⟩ := hb.shape
  have HA := Lib.hid ha
  have HB := Lib.hid hb
  clear ha hb
  go_enter Try.func26, Try.ntmps26
  go_wp2_with fail
  go_loopw [5] (fun v5 wr => ∃ (i n : Nat), v5 = .int .i64 i ∧ i ≤ l.length ∧ wr = w.drewN n) (fun v5 _ => l.length - (intOf v5).toNat)
  case atStart => exact ⟨0, 0, rfl, Nat.zero_le _, rfl⟩
  case round =>
    obtain ⟨i, n, rfl, hin, rfl⟩ := hrel
    by_cases hlt : i < l.length
    · obtain ⟨ga, ca', cur, hva, _, _, _, _, _, _⟩ := HA.out.pos (by omega)
      obtain ⟨gb, cb', cur', hvb, _, _, _, _, _, _⟩ := HB.out.pos (by omega)
      cases hva
      cases hvb
      have a0 := HA.out.cell rfl (softCells_fst l i hlt)
      have a1 := HA.out.cell rfl (softCells_snd l i hlt)
      have b0 := HB.out.cell rfl (softCells_fst l i hlt)
      have b1 := HB.out.cell rfl (softCells_snd l i hlt)
      generalize l[i].1 = x at *
      generalize l[i].2 = y at *
      have w2 : IntKind.i64.wrap ((i : Int) + 1) = (i : Int) + 1 := IntWalk.i64_in _ (by omega)
      go_wp2_with fail
      rw [Nat.mul_comm 2 i] at a0 a1 b0 b1
      go_quiet (fail)
      go_wp2_with fail
      go_roundw
      case rel => exact ⟨i + 1, _, by go_num, by omega, rfl⟩
      case measure => simp [intOf]; omega
    · go_wp2_with fail
      go_ret
      exact ⟨rfl, n, rfl⟩
end Go.Proofs.Ytdhklomnaodcnaa
