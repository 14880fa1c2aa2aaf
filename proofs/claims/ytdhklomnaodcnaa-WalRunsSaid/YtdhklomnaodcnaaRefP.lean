/- jettyref01's Put and Val, jettyref07's floor and Ring, wal.ring, jettyref02's Blank: walks. -/
import Derived.Test.YtdhklomnaodcnaaRefO
import Derived.Test.YtdhklomnaodcnaaDk0
namespace Go.Proofs.Ytdhklomnaodcnaa
open Go.RowKit

set_option maxHeartbeats 400000 in
theorem put_calls (n W : Nat) (hn : n ≤ 9223372036854775807) (hW1 : 1 ≤ W) (hW8 : W ≤ 8) (w : World) :
    Calls Try.prog 40 #[.int .i64 n, .int .i64 W] w fun e w' => e = .returned (.string ⟨(le W n).toArray⟩) ∧ Ext NoB w w' := by
  have HN := Lib.hid (rnum_any n W (by omega) hW1 hW8 w)
  go_enter Try.func40, Try.ntmps40
  go_wp2_with (go_at_call 63; (with_reducible refine HN.out.mono ?_); rintro e w1 ⟨⟨b, rfl⟩, hE⟩)
  go_ret
  exact ⟨rfl, hE⟩

theorem put8_calls (n : Nat) (hn : n ≤ 9223372036854775807) (w : World) :
    Calls Try.prog 40 #[.int .i64 n, .int .i64 8] w fun e w' => e = .returned (.string ⟨(le 8 n).toArray⟩) ∧ Ext NoB w w' := put_calls n 8 hn (by omega) (by omega) w
theorem put2_calls (n : Nat) (hn : n ≤ 9223372036854775807) (w : World) :
    Calls Try.prog 40 #[.int .i64 n, .int .i64 2] w fun e w' => e = .returned (.string ⟨(le 2 n).toArray⟩) ∧ Ext NoB w w' := put_calls n 2 hn (by omega) (by omega) w

theorem unle_drop (l : List UInt8) (i : Nat) (hi : i < l.length) : unle (l.drop i) = l[i].toNat + 256 * unle (l.drop (i + 1)) := by
  rw [List.drop_eq_getElem_cons hi, unle]

set_option maxHeartbeats 1000000 in
set_option maxRecDepth 100000 in
theorem rval_calls (s : ByteArray) (h1 : 1 ≤ s.size) (h8 : s.size ≤ 8) (w : World) :
    Calls Try.prog 51 #[.string s] w fun e w' => e = .returned (.tuple #[.int .u64 (unle s.data.toList), .bool true]) ∧ w = w' := by
  go_enter Try.func51, Try.ntmps51
  go_wp2_with fail
  go_loop [4, 5] (fun n i => ∃ k : Nat, k ≤ s.size ∧ i = .int .i64 ((k : Int) - 1) ∧ n = .int .u64 (unle (s.data.toList.drop k))) (fun _ i => (intOf i + 1).toNat)
  case atStart => exact ⟨s.size, Nat.le_refl _, rfl, by rw [List.drop_eq_nil_of_le (by simp)]; rfl⟩
  case round =>
    obtain ⟨k, hk, rfl, rfl⟩ := hrel
    by_cases hlt : 1 ≤ k
    · obtain ⟨j, rfl⟩ : ∃ j, k = j + 1 := ⟨k - 1, by omega⟩
      have ej : (((j + 1 : Nat) : Int) - 1) = (j : Int) := by omega
      rw [ej]
      have hj : j < s.size := by omega
      have hun := unle_drop s.data.toList j (by simpa using hj)
      have hb : unle (s.data.toList.drop j) ≤ 18446744073709551615 := by
        have h := unle_lt (s.data.toList.drop j)
        have h2 : (256 : Nat) ^ (s.data.toList.drop j).length ≤ 256 ^ 8 := Nat.pow_le_pow_right (by omega) (by simp; omega)
        have : (256 : Nat) ^ 8 = 18446744073709551616 := by decide
        omega
      have hs : s.data.toList[j]'(by simpa using hj) = s[j] := rfl
      rw [hs] at hun
      obtain ⟨u, hu⟩ : ∃ u, unle (s.data.toList.drop (j + 1)) = u := ⟨_, rfl⟩
      rw [hu] at hun
      rw [hu]
      have Hun := Lib.hid hun
      have Hb := Lib.hid hb
      clear hun hb hu hs ej
      go_wp2_with fail
      have hb := Hb.out
      rw [Hun.out] at hb
      have hlt8 := s[j].toNat_lt
      rw [IntWalk.u64_in ((u : Int) * 256) (by omega), IntWalk.u64_in (s[j].toNat : Int) (by omega), IntWalk.u64_in _ (by omega)]
      exact ⟨⟨j, by omega, rfl, by rw [Hun.out]; congr 1; omega⟩, by simp [intOf]⟩
    · have : k = 0 := by omega
      subst this
      go_wp2_with fail
      go_ret2
      exact ⟨rfl, rfl⟩

set_option maxHeartbeats 400000 in
theorem floor_calls (n : Nat) (hn : n ≤ 9223372036854775807) (w : World) :
    Calls Try.prog 42 #[.int .i64 n] w fun e w' => e = .returned (.int .i64 ((n / 54 * 54 : Nat) : Int)) ∧ w = w' := by
  go_enter Try.func42, Try.ntmps42
  go_wp2
  go_ret
  exact ⟨by first | rfl | (simp; done), rfl⟩

/-- A ring of a device of so many sectors. -/
def RingOk (size first n : Int) : Prop := 128 ≤ n ∧ n ≤ 4096 ∧ 0 ≤ first ∧ first ≤ size - n
instance (size first n : Int) : Decidable (RingOk size first n) := by unfold RingOk; infer_instance

set_option maxHeartbeats 1000000 in
theorem ring_calls (size : Nat) (hs : size ≤ 5000) (first n : Int) (b : Nat) (a : Option Addr) (c : Nat) (w : World) (h0 : w.cell? ⟨b, 0, none⟩ = some (.slice a size c)) :
    Calls Try.prog 33 #[.pointer (some ⟨b, 0, none⟩), .int .i64 first, .int .i64 n] w fun e w' => e = .returned (.bool (decide (RingOk size first n))) ∧ w = w' := by
  by_cases c1 : 128 ≤ n
  · by_cases c2 : n ≤ 4096
    · by_cases c3 : 0 ≤ first
      · by_cases c4 : first ≤ (size : Int) - n
        · have e : decide (RingOk size first n) = true := decide_eq_true ⟨c1, c2, c3, c4⟩
          rw [e]; clear e
          go_enter Try.func33, Try.ntmps33
          go_wp2_with (go_at_call 54; refine (size_calls b a size c _ (by assumption)).mono ?_; rintro e w' ⟨rfl, rfl⟩)
          go_ret
          exact ⟨by simp [c4], rfl⟩
        · have e : decide (RingOk size first n) = false := decide_eq_false (fun h => c4 h.2.2.2)
          rw [e]; clear e
          go_enter Try.func33, Try.ntmps33
          go_wp2_with (go_at_call 54; refine (size_calls b a size c _ (by assumption)).mono ?_; rintro e w' ⟨rfl, rfl⟩)
          go_ret
          exact ⟨by simp [c4], rfl⟩
      · have e : decide (RingOk size first n) = false := decide_eq_false (fun h => c3 h.2.2.1)
        rw [e]; clear e
        go_enter Try.func33, Try.ntmps33
        go_wp2_with fail
        go_ret
        exact ⟨rfl, rfl⟩
    · have e : decide (RingOk size first n) = false := decide_eq_false (fun h => c2 h.2.1)
      rw [e]; clear e
      go_enter Try.func33, Try.ntmps33
      go_wp2_with fail
      go_ret
      exact ⟨rfl, rfl⟩
  · have e : decide (RingOk size first n) = false := decide_eq_false (fun h => c1 h.1)
    rw [e]; clear e
    go_enter Try.func33, Try.ntmps33
    go_wp2_with fail
    go_ret
    exact ⟨rfl, rfl⟩

set_option maxHeartbeats 1000000 in
theorem rring_calls (size : Nat) (hs : size ≤ 5000) (first n : Int) (w : World) :
    Calls Try.prog 8 #[.int .i64 size, .int .i64 first, .int .i64 n] w fun e w' => e = .returned (.bool (decide (RingOk size first n))) ∧ w = w' := by
  by_cases c1 : 128 ≤ n
  · by_cases c2 : n ≤ 4096
    · by_cases c3 : 0 ≤ first
      · by_cases c4 : first ≤ (size : Int) - n
        · have e : decide (RingOk size first n) = true := decide_eq_true ⟨c1, c2, c3, c4⟩
          rw [e]; clear e
          go_enter Try.func8, Try.ntmps8
          go_wp2_with fail
          go_ret
          exact ⟨by simp [c4], rfl⟩
        · have e : decide (RingOk size first n) = false := decide_eq_false (fun h => c4 h.2.2.2)
          rw [e]; clear e
          go_enter Try.func8, Try.ntmps8
          go_wp2_with fail
          go_ret
          exact ⟨by simp [c4], rfl⟩
      · have e : decide (RingOk size first n) = false := decide_eq_false (fun h => c3 h.2.2.1)
        rw [e]; clear e
        go_enter Try.func8, Try.ntmps8
        go_wp2_with fail
        go_ret
        exact ⟨rfl, rfl⟩
    · have e : decide (RingOk size first n) = false := decide_eq_false (fun h => c2 h.2.1)
      rw [e]; clear e
      go_enter Try.func8, Try.ntmps8
      go_wp2_with fail
      go_ret
      exact ⟨rfl, rfl⟩
  · have e : decide (RingOk size first n) = false := decide_eq_false (fun h => c1 h.1)
    rw [e]; clear e
    go_enter Try.func8, Try.ntmps8
    go_wp2_with fail
    go_ret
    exact ⟨rfl, rfl⟩

def zeros (n : Nat) : List UInt8 := List.replicate n 0
def blank : ByteArray := ⟨(zeros 64).toArray⟩
theorem bytesV_zeros (n : Nat) : bytesV (zeros n) = List.replicate n (.int .u8 0) := by simp [bytesV, zeros]
theorem mk64 : ∀ w, (Instr.makeSlice 76 (.int .i64 64) (.int .i64 64)).run Try.prog w = .ok (.slice (some ⟨w.heap.size, 0, none⟩) 64 64) (w.alloc (.cells (List.replicate 64 (.int .u8 0)).toArray 5)) := fun _ => by kernel_rfl

set_option maxHeartbeats 400000 in
set_option maxRecDepth 100000 in
theorem blank_calls (w : World) :
    Calls Try.prog 32 #[] w fun e w' => e = .returned (.string blank) ∧ Ext NoB w w' := by
  have hmk := mk64
  have hcv := conv_new w (zeros 64) _ (bytesV_zeros 64) 64 (by simp [zeros])
  obtain ⟨L, hL⟩ : ∃ L, (List.replicate 64 (Value.int .u8 0)).toArray = L := ⟨_, rfl⟩
  rw [hL] at hmk hcv
  clear hL
  go_enter Try.func32, Try.ntmps32
  go_wp2
  go_ret
  exact ⟨rfl, (Ext.refl _ _).alloc _⟩
end Go.Proofs.Ytdhklomnaodcnaa
