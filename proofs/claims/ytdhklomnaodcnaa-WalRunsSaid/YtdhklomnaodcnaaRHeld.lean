/- jettyref07's held: the walk. -/
import Derived.Test.YtdhklomnaodcnaaWp
import Derived.Test.YtdhklomnaodcnaaRFlush
namespace Go.Proofs.Ytdhklomnaodcnaa
open Go.RowKit

set_option maxHeartbeats 4000000 in
set_option maxRecDepth 100000 in
theorem rheld_calls (b bd : Nat) (L : Lg) (F : Nat → Prop) (w : World) (h : RLogAt w b L bd F) (hok : L.Ok) (i : Nat) (hi : i < L.n) :
    Calls Try.prog 69 #[.pointer (some ⟨b, 0, none⟩), .int .i64 i] w fun e w' => e = .returned (.string (L.want i)) ∧ Ext NoB w w' := by
  have hbig := hok.big
  have hsf := hok.sf
  have hff := hok.ff
  have hbc := hok.bcap
  have hn1 := hok.n1
  have hn2 := hok.n2
  have hbase := Lg.base_le hok
  have hbl : L.base + L.buf.length = L.fin := hok.blen
  have hb54 : L.base / 54 * 54 = L.base := by show L.start / 54 * 54 / 54 * 54 = L.start / 54 * 54; omega
  have hcnt : L.count = (L.buf.length + 53) / 54 := rfl
  obtain ⟨vl, hb, k2, fb, f2⟩ := h
  have KB := Lib.hid hb
  have HFs := fun w' => floor_calls L.start (by omega) w'
  have eb : L.start / 54 * 54 = L.base := rfl
  rw [eb] at HFs
  have HFs := Lib.hid HFs
  have hnz : ¬ L.n = 0 := by omega
  have C2 := fun w' (e : Ext NoB w w') => (KB.out.ext e id).cell (i := 2) rfl
  have C3 := fun w' (e : Ext NoB w w') => (KB.out.ext e id).cell (i := 3) rfl
  have C4 := fun w' (e : Ext NoB w w') => (KB.out.ext e id).cell (i := 4) rfl
  have C6 := fun w' (e : Ext NoB w w') => (KB.out.ext e id).cell (i := 6) rfl
  have E0 := Ext.refl NoB w
  clear k2 f2 hb eb
  go_enter Try.func69, Try.ntmps69
  go_wp2_with (go_at_call 42; (with_reducible refine (HFs.out _).mono ?_); rintro e w9 ⟨rfl, rfl⟩)
  go_loop [5] (fun v5 => ∃ s t : Nat, s = L.base + 54 * t ∧ v5 = .int .i64 s ∧ t ≤ L.count ∧ Hid (∀ t', t' < t → (L.base / 54 + t') % L.n ≠ i)) (fun v5 => L.fin + 54 - (intOf v5).toNat)
  case atStart => exact ⟨L.base, 0, by omega, rfl, Nat.zero_le _, fun t' h => by omega⟩
  case round =>
    obtain ⟨s, t, hs, rfl, htc, HN⟩ := hrel
    have w1 : IntKind.i64.wrap ((s : Int) + 54) = (s : Int) + 54 := IntWalk.i64_in _ (by omega)
    by_cases hlt : s < L.fin
    · obtain ⟨k, hk⟩ : ∃ x, L.base / 54 + t = x := ⟨_, rfl⟩
      have hsk : (s : Int) / 54 = (k : Int) := by omega
      have hkw : IntKind.i64.wrap (k : Int) = (k : Int) := IntWalk.i64_in _ (by omega)
      have htc' : t < L.count := by omega
      have HS := Lib.hid hs
      have hk54 : k * 54 = s := by omega
      have HK := Lib.hid hk54
      have hkm : (k : Int).tmod (L.n : Int) = ((k % L.n : Nat) : Int) := by rw [Int.tmod_eq_emod_of_nonneg (by omega)]; rfl
      by_cases hki : k % L.n = i
      · have hbi : ((k : Int) % (L.n : Int) == (i : Int)) = true := by simp; omega
        have hbi2 : ((k : Int).tmod (L.n : Int) == (i : Int)) = true := by rw [hkm, hki]; simp
        have HW : Hid (L.want i = L.sect k) := by have := L.want_at hok htc'; rw [hk, hki] at this; exact this
        obtain ⟨lo, hlo⟩ : ∃ x, k * 54 - L.base = x := ⟨_, rfl⟩
        have w2 : IntKind.i64.wrap ((s : Int) - (L.base : Int)) = (lo : Int) := by rw [show (s : Int) - (L.base : Int) = (lo : Int) by omega]; exact IntWalk.i64_in _ (by omega)
        have w3 : IntKind.i64.wrap ((lo : Int) + 54) = (lo : Int) + 54 := IntWalk.i64_in _ (by omega)
        obtain ⟨hi, hhi⟩ : ∃ x, min (lo + 54) L.buf.length = x := ⟨_, rfl⟩
        have hmin : ∀ w, (Builtin.min_ #[3, 3] 3 #[.int .i64 ((lo : Int) + 54), .int .i64 (L.buf.length : Int)]).run Try.prog w = .ok (.int .i64 (hi : Int)) w := fun w => by
          by_cases hc : (L.buf.length : Int) < (lo : Int) + 54
          · have : (hi : Int) = L.buf.length := by omega
            simp [Builtin.min_, Builtin.min2, hc, this]
          · have : (hi : Int) = (lo : Int) + 54 := by omega
            simp [Builtin.min_, Builtin.min2, hc, this]
        have hlh : (lo : Int) ≤ hi := by omega
        have hhc : (hi : Int) ≤ L.buf.length := by omega
        have hl2 : lo ≤ hi := by omega
        have hl3 : hi ≤ L.buf.length := by omega
        have hex : (⟨L.buf.toArray⟩ : ByteArray).extract lo hi = ⟨(L.part k).toArray⟩ := by
          unfold Lg.part; rw [hlo]; exact bytes_part _ _ _ hhi.symm
        have CS : Hid (∀ w', Calls Try.prog 43 #[.int .i64 k, .string ⟨(L.part k).toArray⟩] w' fun e w'' => e = .returned (.string (L.sect k)) ∧ Ext NoB w' w'') := fun w' => rsector_calls k (by omega) (L.part k) (L.part_le k) w'
        have E1 := E0.drew
        clear hs hk54 hki hk hlo hhi hkm
        go_wp2_with (go_at_call 42; (with_reducible refine (HFs.out _).mono ?_); rintro e w9 ⟨rfl, rfl⟩)
        go_region_held3 (fun w' => Ext NoB w w') (assumption) (first
          | (go_at_call 43; (with_reducible refine (CS.out _).mono ?_); rintro e w3 ⟨rfl, hb3⟩; have hE3 : Ext NoB w w3 := E1.trans hb3 (fun _ _ h => h)))
        go_wp2_with fail
        go_ret
        exact ⟨by rw [HW.out]; rfl, hE3⟩
      · have hbi : ((k : Int) % (L.n : Int) == (i : Int)) = false := by simp; omega
        have hbi2 : ((k : Int).tmod (L.n : Int) == (i : Int)) = false := by rw [hkm]; simp; omega
        have HN2 : Hid (∀ t', t' < t + 1 → (L.base / 54 + t') % L.n ≠ i) := fun t' h => by
          rcases Nat.lt_or_ge t' t with h1 | h1
          · exact HN t' h1
          · have : t' = t := by omega
            subst this; rw [hk]; exact hki
        clear hs hk54 hki hk hkm
        go_wp2_with fail
        exact ⟨⟨s + 54, t + 1, by have := HS.out; omega, by go_num, by omega, HN2⟩, by simp [intOf]; omega⟩
    · have HB := Lib.hid (fun w => blank_calls w)
      have HW : Hid (L.want i = blank) := L.want_none (fun t' h => HN t' (by omega))
      clear hs
      go_wp2_with (go_at_call 32; (with_reducible refine (HB.out _).mono ?_); rintro e w9 ⟨rfl, hE⟩)
      go_ret
      exact ⟨by rw [HW.out]; rfl, hE⟩
end Go.Proofs.Ytdhklomnaodcnaa
