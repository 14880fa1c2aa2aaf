/- jettyref01's numbers: walks. -/
import Derived.Test.YtdhklomnaodcnaaApp
import Derived.Test.YtdhklomnaodcnaaOctV
namespace Go.Proofs.Ytdhklomnaodcnaa
open Go.RowKit

theorem info5 : (Try.prog.info? 5).map (fun i => (i.zero, i.size, i.bytes)) = some (some (.int .u8 0), 1, 1) := by kernel_rfl

theorem le_snoc (k : Nat) : ∀ n, le (k + 1) n = le k n ++ [UInt8.ofNat (n / 256 ^ k)] := by
  induction k with
  | zero => intro n; simp [le]
  | succ k ih =>
    intro n
    rw [le, ih (n / 256), le, List.cons_append, Nat.div_div_eq_div_mul, Nat.pow_succ, Nat.mul_comm]

theorem Own.bytesAt {w : World} {v : Value} {l : List UInt8} {n cap : Nat} {base : Option Addr} (h : Own w v 5 1 n (bytesV l)) (hv : v = .slice base n cap) (hl : l.length = n) :
    (base = none → n = 0) ∧ (∀ ad, base = some ad → ∀ i u, l[i]? = some u → w.cell? (ad.add i) = some (.int .u8 u.toNat)) := by
  rcases h.2 with ⟨base', hv', hn⟩ | ⟨g, cap', cur, hv', hb, hc, r⟩
  · subst hn
    refine ⟨fun _ => rfl, fun ad _ i u hu => ?_⟩
    have := List.eq_nil_of_length_eq_zero hl
    subst this
    simp at hu
  · rw [hv'] at hv
    cases hv
    refine ⟨fun e => (nomatch e), fun ad had i u hu => ?_⟩
    cases had
    rw [Addr.add_lit, Nat.zero_add]
    exact h.cell hv' (by simp [bytesV, hu])

set_option maxHeartbeats 1000000 in
set_option maxRecDepth 100000 in
theorem rnum_any (n W : Nat) (hn : n ≤ 18446744073709551615) (hW1 : 1 ≤ W) (hW8 : W ≤ 8) (w : World) :
    Calls Try.prog 63 #[.int .u64 n, .int .i64 W] w fun e w' => (∃ b, e = .returned (.tuple #[.string ⟨(le W n).toArray⟩, .bool b])) ∧ Ext NoB w w' := by
  have Hn := Lib.hid hn
  clear hn
  go_enter Try.func63, Try.ntmps63
  go_wp2_with fail
  go_loopw [0, 6, 7] (fun v0 v6 v7 wr => ∃ k m : Nat, k ≤ W ∧ m ≤ n ∧ v7 = .int .i64 k ∧ v0 = .int .u64 m ∧ Hid (m = n / 256 ^ k) ∧ Own wr v6 5 1 k (bytesV (le k n)) ∧ Hid (∀ j, fp v6 = some j → w.heap.size ≤ j) ∧ Ext NoB w wr) (fun _ _ v7 _ => W - (intOf v7).toNat)
  case atStart => exact ⟨0, n, Nat.zero_le _, Nat.le_refl _, rfl, rfl, by simp [Hid], Own.nil _ _ _, by simp [Hid, fp], Ext.refl _ _⟩
  case round =>
    obtain ⟨k, m, hk, hmn, rfl, rfl, Hm, hO, hF, hE⟩ := hrel
    have HO := Lib.hid hO
    clear hO
    by_cases hlt : k < W
    · go_wp2_with (at_builtin; refine wpList_append_Own rfl _ _ 76 76 rfl 5 1 1 _ Try.underlying76 (.inl Try.underlying76) info5 rfl _ k (bytesV (le k n)) rfl (HO.out.alloc _) _ rfl 1 [.int .u8 ((m : Int) % 256)] (Src.one _ _ _) rfl (by simp [Value.oneCell']) (by simp only [maxLen]; omega) (by omega) ?_)
      intro v' w2 hO2 hE2 hF2
      have key : Own w2 v' 5 1 (k + 1) (bytesV (le (k + 1) n)) := by
        rw [le_snoc, ← Hm.out]
        simpa [bytesV] using hO2
      have kF : Hid (∀ j, fp v' = some j → w.heap.size ≤ j) := fun j hj => by
        have := hE.size
        rcases hF2 j hj with h | h
        · exact hF.out j h
        · omega
      have kE : Ext NoB w w2 := (hE.alloc _).trans hE2 (fun j hj hx => by have := hF.out j hx; omega)
      have Hm' : Hid (m / 256 = n / 256 ^ (k + 1)) := by
        show m / 256 = _
        rw [Hm.out, Nat.div_div_eq_div_mul, Nat.pow_succ]
      clear hO2 hE2 hF2
      go_wp2_with fail
      go_roundw
      case rel => exact ⟨k + 1, m / 256, by omega, by omega, by go_num, by rw [IntWalk.u64_in _ (by have := Hn.out; omega)]; rfl, Hm', key, kF, kE⟩
      case measure => simp [intOf]; omega
    · have hk' : k = W := by omega
      subst hk'
      obtain ⟨base, cap, hv, hv1, hv2⟩ := HO.out.shape
      obtain ⟨hb1, hb2⟩ := HO.out.bytesAt hv (le_length _ _)
      have Hb1 := Lib.hid hb1
      have Hb2 := Lib.hid hb2
      clear hb1 hb2 HO hF
      rw [hv]
      clear hv
      go_wp2_with ((with_reducible refine wpList_conv rfl (.tmp 27) 76 9 5 rfl Try.underlying76 Try.underlying5 Try.underlying9 base k cap rfl (le k n) (le_length _ _) Hb1.out Hb2.out ?_))
      go_ret2
      exact ⟨⟨_, rfl⟩, hE⟩
end Go.Proofs.Ytdhklomnaodcnaa
