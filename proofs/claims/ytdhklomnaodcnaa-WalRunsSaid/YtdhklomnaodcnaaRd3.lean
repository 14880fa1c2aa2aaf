/- The reference's device: New: the walk. -/
import Derived.Test.YtdhklomnaodcnaaRd1
import Derived.Test.YtdhklomnaodcnaaRefP
import Derived.Deep.RegionLaw
namespace Go.Proofs.Ytdhklomnaodcnaa
open Go.RowKit

theorem info9 : (Try.prog.info? 9).map (fun i => (i.zero, i.size, i.bytes)) = some (some (.string ⟨#[]⟩), 1, 16) := by kernel_rfl

set_option maxHeartbeats 2000000 in
set_option maxRecDepth 100000 in
theorem rnew_calls (n : Nat) (h2 : n ≤ 5000) (w : World) :
    Calls Try.prog 6 #[.int .i64 n] w fun e w' => e = .returned (.pointer (some ⟨w.heap.size, 0, none⟩)) ∧ RDiskAt w' w.heap.size (Dk.fresh (List.replicate n blank)) (Fsh NoB w) ∧ Ext NoB w w' := by
  go_enter Try.func6, Try.ntmps6
  go_wp2_with fail
  go_loopw [4] (fun v4 wr => ∃ (k : Nat) (vf : Value), k ≤ n ∧ v4 = .int .i64 k ∧ Blk wr w.heap.size [vf, .slice none 0 0, .int .i64 (-1), .bool false] 57 ∧ Own wr vf 9 1 k (strs (List.replicate k blank)) ∧ Hid (∀ j, fp vf = some j → w.heap.size < j) ∧ Ext NoB w wr) (fun v4 _ => n - (intOf v4).toNat)
  case atStart =>
    exact ⟨0, .slice none 0 0, Nat.zero_le _, rfl, (Blk.new w [.slice none 0 0, .slice none 0 0, .int .i64 (-1), .bool false] 57), Own.nil _ _ _, by simp [Hid, fp], ((Ext.refl NoB w).alloc _)⟩
  case round =>
    obtain ⟨k, vf, hk, rfl, hB, hO, hF, hE⟩ := hrel
    obtain ⟨bs, caps, hv, hv1, hv2⟩ := hO.shape
    have hsz : w.heap.size < wr.heap.size := hB.lt
    have HO := Lib.hid hO
    have HB := Lib.hid hB
    rw [hv] at HO HB hF
    clear hO hB hv
    by_cases hlt : k < n
    · have c0 : ∀ w', Ext NoB wr w' → w'.cell? ⟨w.heap.size, 0, none⟩ = some (.slice bs k caps) := fun w' e => (HB.out.ext e id).cell rfl
      have e0 := (Ext.refl NoB wr).drew
      have hE' := Lib.hid hE
      clear hE
      go_wp2_with fail
      go_region_law (first
        | (refine step_append_Own rfl _ _ 54 54 rfl 9 1 16 _ Try.underlying54 (.inl Try.underlying54) info9 rfl _ k (strs (List.replicate k blank)) rfl ((HO.out.ext e3 (fun _ _ => id)).alloc _) _ rfl 1 [.string blank] (Src.one _ _ _) rfl (by simp [Value.oneCell']) (by simp only [maxLen]; omega) (by omega) ?_; intro v' w2 hO2 hE2 hF2; obtain ⟨bv, cv, hvv, hvv1, hvv2⟩ := hO2.shape; rw [hvv] at hO2 hF2; rw [hvv]; clear hvv; have q0 := (((HB.out.ext e3 id).alloc _).ext hE2 (fun e => absurd (hF.out _ e) (Nat.lt_irrefl _))).cell (i := 0) rfl; have r0 := (((HB.out.ext e3 id).alloc _).ext hE2 (fun e => absurd (hF.out _ e) (Nat.lt_irrefl _))).fr 0)
        | (go_simp; go_at_call 32; (with_reducible refine (blank_calls _).mono ?_); rintro e w3 ⟨rfl, hE3⟩; have e3 := e0.trans hE3 (fun _ _ => id); have z3 : w.heap.size < w3.heap.size := Nat.lt_of_lt_of_le hsz e3.size))
      all_goals
        have FR : ∀ j, fp (.slice bv (k + 1) cv) = some j → w.heap.size < j := fun j hj => (hF2 j hj).elim (fun h => hF.out j h) (fun h => by rw [World.size_alloc] at h; omega)
        have B2 : Blk w2 w.heap.size [.slice bs k caps, .slice none 0 0, .int .i64 (-1), .bool false] 57 :=
          ((HB.out.ext e3 id).alloc _).ext hE2 (fun e => absurd (hF.out _ e) (Nat.lt_irrefl _))
        have KB := Lib.hid (B2.set 0 (.slice bv (k + 1) cv))
        have KO : Hid (Own (w2.setCell ⟨w.heap.size, 0, none⟩ (.slice bv (k + 1) cv)) (.slice bv (k + 1) cv) 9 1 (k + 1) (strs (List.replicate (k + 1) blank))) := by
          have := hO2.far (p := ⟨w.heap.size, 0, none⟩) (.slice bv (k + 1) cv) (fun e => by have := FR _ e; simp at this)
          rw [List.replicate_succ', strs, List.map_append]
          exact this
        have KE : Hid (Ext NoB w (w2.setCell ⟨w.heap.size, 0, none⟩ (.slice bv (k + 1) cv))) :=
          (((hE'.out.trans e3 (fun _ _ h => h)).alloc _).trans hE2 (fun j hj hx => by have := hF.out j hx; omega)).setCell _ (fun h => by simp at h)
        have KF : Hid (∀ j, fp (.slice bv (k + 1) cv) = some j → w.heap.size < j) := FR
        clear hO2 hE2 hF2 B2 FR
        go_wp2_with fail
        go_roundw
        case rel => exact ⟨k + 1, _, by omega, by go_num, KB.out, KO.out, KF, KE.out⟩
        case measure => simp [intOf]; omega
    · have : k = n := by omega
      subst this
      have KEY : Hid (RDiskAt wr w.heap.size (Dk.fresh (List.replicate k blank)) (Fsh NoB w)) := by
        refine ⟨.slice bs k caps, .slice none 0 0, HB.out, ?_, Own.nil _ _ _, .inr (Nat.le_refl _), fun j hj => ?_, fun j hj => by simp [fp] at hj, fun j _ => by simp [fp]⟩
        · simpa [Dk.fresh] using HO.out
        · have := hF.out j hj; exact ⟨.inr (by omega), by omega⟩
      go_wp2_with fail
      go_ret
      exact ⟨rfl, KEY.out, hE⟩
end Go.Proofs.Ytdhklomnaodcnaa
