/- octet's Val: the walk. -/
import Derived.Test.YtdhklomnaodcnaaOct
namespace Go.Proofs.Ytdhklomnaodcnaa
open Go.RowKit

/-- The number of bytes, the lowest first. -/
def unle : List UInt8 → Nat
  | [] => 0
  | b :: r => b.toNat + 256 * unle r
theorem unle_lt (l : List UInt8) : unle l < 256 ^ l.length := by
  induction l with
  | nil => simp [unle]
  | cons b r ih =>
    have := b.toNat_lt
    simp only [unle, List.length_cons, Nat.pow_succ]
    omega
theorem unle_snoc (l : List UInt8) (b : UInt8) : unle (l ++ [b]) = unle l + b.toNat * 256 ^ l.length := by
  induction l with
  | nil => simp [unle]
  | cons c r ih =>
    simp only [List.cons_append, unle, ih, List.length_cons, Nat.pow_succ]
    rw [Nat.mul_add, ← Nat.mul_assoc b.toNat, Nat.mul_comm (b.toNat * 256 ^ r.length) 256, Nat.add_assoc]

theorem take_snoc (s : ByteArray) (k : Nat) (h : k < s.size) : s.data.toList.take (k + 1) = s.data.toList.take k ++ [s[k]] := by
  rw [List.take_succ_eq_append_getElem (by simpa using h)]; rfl

theorem or_byte (k : Nat) (hk : k < 8) (l : List UInt8) (hl : l.length = k) (b : UInt8) :
    bits BinOp.or IntKind.u64 (unle l) (IntKind.u64.wrap (IntKind.u64.wrap b.toNat * 2 ^ (8 * k))) = ((unle (l ++ [b]) : Nat) : Int) := by
  have hb := b.toNat_lt
  have hu := unle_lt l
  rw [hl] at hu
  have e : (256 : Nat) ^ k = 2 ^ (8 * k) := by rw [Nat.pow_mul]
  rw [e] at hu
  have hp : 2 ^ (8 * k) * 256 ≤ 2 ^ 64 := by
    rw [show (256 : Nat) = 2 ^ 8 from rfl, ← Nat.pow_add]
    exact Nat.pow_le_pow_right (by omega) (by omega)
  have hm : b.toNat * 2 ^ (8 * k) < 2 ^ 64 := by
    have : b.toNat * 2 ^ (8 * k) ≤ 255 * 2 ^ (8 * k) := Nat.mul_le_mul_right _ (by omega)
    have := Nat.two_pow_pos (8 * k)
    omega
  have w1 : IntKind.u64.wrap (b.toNat : Int) = b.toNat := IntWalk.u64_in _ (by omega)
  have w2 : IntKind.u64.wrap ((b.toNat : Int) * 2 ^ (8 * k)) = ((b.toNat * 2 ^ (8 * k) : Nat) : Int) := by
    have : ((b.toNat : Int) * 2 ^ (8 * k)) = ((b.toNat * 2 ^ (8 * k) : Nat) : Int) := by simp
    rw [this]
    exact IntWalk.u64_in _ (by omega)
  rw [w1, w2, (bits_nat .u64 64 (by decide) (fun n h0 h1 => IntWalk.u64_in _ (by omega)) (unle l) (b.toNat * 2 ^ (8 * k)) (by omega) hm).2, unle_snoc, hl, e]
  congr 1
  have := Nat.two_pow_add_eq_or_of_lt hu b.toNat
  rw [Nat.mul_comm b.toNat, Nat.or_comm, ← this, Nat.add_comm]

set_option maxHeartbeats 1000000 in
set_option maxRecDepth 100000 in
theorem val_calls (s : ByteArray) (h1 : 1 ≤ s.size) (h8 : s.size ≤ 8) (w : World) :
    Calls Try.prog 49 #[.string s] w fun e w' => e = .returned (.tuple #[.int .u64 (unle s.data.toList), .int .i64 0]) ∧ w = w' := by
  go_enter Try.func49, Try.ntmps49
  go_wp2
  go_loop [4, 16] (fun n i => ∃ k : Nat, k ≤ s.size ∧ i = .int .i64 k ∧ n = .int .u64 (unle (s.data.toList.take k))) (fun _ i => s.size - (intOf i).toNat)
  case atStart => exact ⟨0, Nat.zero_le _, rfl, rfl⟩
  case round =>
    obtain ⟨k, hk, rfl, rfl⟩ := hrel
    by_cases hlt : k < s.size
    · have hk8 : k < 8 := by omega
      go_wp2
      rw [or_byte k hk8 _ (by simp; omega) s[k], ← take_snoc s k hlt]
      exact ⟨⟨k + 1, by omega, by go_num, rfl⟩, by simp [intOf]; omega⟩
    · go_wp2
      go_ret2
      have hk : k = s.size := by omega
      subst hk
      exact ⟨by rw [List.take_of_length_le (by simp)]; rfl, rfl⟩
end Go.Proofs.Ytdhklomnaodcnaa
