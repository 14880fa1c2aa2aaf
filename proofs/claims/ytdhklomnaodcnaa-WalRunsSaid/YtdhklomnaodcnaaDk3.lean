/- The program's device: New, Fuel, Pending, Barrier: walks. -/
import Derived.Test.YtdhklomnaodcnaaDk2
import Derived.Test.YtdhklomnaodcnaaRefP
import Derived.StillTailTactics
import Derived.Laws.IdiomCopy
namespace Go.Proofs.Ytdhklomnaodcnaa
open Go.RowKit

theorem info9 : (Try.prog.info? 9).map (fun i => (i.zero, i.size, i.bytes)) = some (some (.string ⟨#[]⟩), 1, 16) := by kernel_rfl

set_option maxHeartbeats 400000 in
theorem pending_calls (b : Nat) (D : Dk) (F : Nat → Prop) (w : World) (h : DiskAt w b D F) :
    Calls Try.prog 30 #[.pointer (some ⟨b, 0, none⟩)] w fun e w' => e = .returned (.int .i64 D.soft.length) ∧ w = w' := by
  obtain ⟨vf, vs, vn, hb, h1, h2, h3, fb, f1, f2, f3, d⟩ := h
  have c1 := hb.cell (i := 1) rfl
  obtain ⟨bs, caps, rfl, hns, hms⟩ := h2.shape
  clear d f1 f2 f3 h1 h2 h3 hb
  go_enter Try.func30, Try.ntmps30
  go_wp2_with fail
  go_ret
  exact ⟨rfl, rfl⟩

def Dk.fueled (D : Dk) (n : Int) : Dk := { D with fuel := max n (-1) }

set_option maxHeartbeats 400000 in
theorem fuel_calls (b : Nat) (D : Dk) (F : Nat → Prop) (w : World) (h : DiskAt w b D F) (n : Int) (hn0 : -9223372036854775808 ≤ n) (hn1 : n ≤ 9223372036854775807) :
    Calls Try.prog 19 #[.pointer (some ⟨b, 0, none⟩), .int .i64 n] w fun e w' => e = .returned (.tuple #[]) ∧ DiskAt w' b (D.fueled n) F ∧ Ext F w w' := by
  obtain ⟨vf, vs, vn, hb, h1, h2, h3, fb, f1, f2, f3, d⟩ := h
  have r3 := hb.fr 3
  have c3 := hb.cell (i := 3) rfl
  have key : DiskAt (w.setCell ⟨b, 3, none⟩ (.int .i64 (max n (-1)))) b (D.fueled n) F :=
    ⟨vf, vs, vn, hb.set 3 _, h1.far _ (fun e => (f1 _ e).2 rfl), h2.far _ (fun e => (f2 _ e).2 rfl), h3.far _ (fun e => (f3 _ e).2 rfl), fb, f1, f2, f3, d⟩
  have kext : Ext F w (w.setCell ⟨b, 3, none⟩ (.int .i64 (max n (-1)))) := (Ext.refl F w).setCell _ fun _ => fb
  clear d f1 f2 f3 h1 h2 h3 hb
  have hmx : ∀ w, (Builtin.max_ #[3, 3] 3 #[.int .i64 n, .int .i64 (-1)]).run Try.prog w = .ok (.int .i64 (max n (-1))) w := fun w => by
    have e : max n (-1) = if n < -1 then -1 else n := by omega
    rw [e]
    simp [Builtin.max_, Builtin.max2]
  go_enter Try.func19, Try.ntmps19
  go_wp2_with fail
  go_end0
  exact ⟨rfl, key, kext⟩

theorem conv_new_at (w : World) (g : Nat) (hg : g = w.heap.size) (l : List UInt8) (cs : List Value) (hcs : bytesV l = cs) (n : Nat) (hn : l.length = n) :
    (convert 76 9 (.slice (some ⟨g, 0, none⟩) n n)).run Try.prog (w.alloc (.cells cs.toArray 5)) = .ok (.string ⟨l.toArray⟩) (w.alloc (.cells cs.toArray 5)) := by
  subst hg
  exact conv_new w l cs hcs n hn

set_option maxHeartbeats 1000000 in
set_option maxRecDepth 100000 in
theorem new_calls (n : Nat) (h1 : 1 ≤ n) (h2 : n ≤ 5000) (w : World) :
    Calls Try.prog 5 #[.int .i64 n] w fun e w' => e = .returned (.tuple #[.pointer (some ⟨w.heap.size, 0, none⟩), .int .i64 0]) ∧ DiskAt w' w.heap.size (Dk.fresh (List.replicate n blank)) (Fsh NoB w) ∧ Ext NoB w w' := by
  have hmk := mk64
  have hcv := fun w g hg => conv_new_at w g hg (zeros 64) _ (bytesV_zeros 64) 64 (by simp [zeros])
  obtain ⟨L, hL⟩ : ∃ L, (List.replicate 64 (Value.int .u8 0)).toArray = L := ⟨_, rfl⟩
  rw [hL] at hmk
  simp only [hL] at hcv
  obtain ⟨bl, hbl⟩ : ∃ bl, (⟨(zeros 64).toArray⟩ : ByteArray) = bl := ⟨_, rfl⟩
  simp only [hbl] at hcv
  have Hbl : Hid (bl = blank) := hbl.symm
  clear hL hbl
  go_enter Try.func5, Try.ntmps5
  go_wp2_with fail
  go_loopw [17] (fun v17 wr => ∃ (k : Nat) (vf : Value), k ≤ n ∧ v17 = .int .i64 k ∧ Blk wr w.heap.size [vf, .slice none 0 0, .slice none 0 0, .int .i64 (-1), .bool false] 75 ∧ Own wr vf 9 1 k (strs (List.replicate k blank)) ∧ Hid (∀ j, fp vf = some j → w.heap.size < j) ∧ Ext NoB w wr) (fun v17 _ => n - (intOf v17).toNat)
  case atStart =>
    exact ⟨0, .slice none 0 0, Nat.zero_le _, rfl, (Blk.new w [.slice none 0 0, .slice none 0 0, .slice none 0 0, .int .i64 (-1), .bool false] 75).alloc _, Own.nil _ _ _, by simp [Hid, fp], ((Ext.refl NoB w).alloc _).alloc _⟩
  case round =>
    obtain ⟨k, vf, hk, rfl, hB, hO, hF, hE⟩ := hrel
    obtain ⟨bs, caps, hv, hv1, hv2⟩ := hO.shape
    have c0 := hB.cell (i := 0) rfl
    have c2 := hB.cell (i := 2) rfl
    have r0 := hB.fr 0
    have r2 := hB.fr 2
    have hsz : w.heap.size < wr.heap.size := hB.lt
    rw [hv] at c0
    have HO := Lib.hid hO
    have HB := Lib.hid hB
    rw [hv] at HO
    clear hO hB
    by_cases hlt : k < n
    · go_wp2_with (at_builtin; refine wpList_append_Own rfl _ _ 54 54 rfl 9 1 16 _ Try.underlying54 (.inl Try.underlying54) info9 rfl _ k (strs (List.replicate k blank)) rfl (HO.out.alloc _) _ rfl 1 [.string bl] (Src.one _ _ _) rfl (by simp [Value.oneCell']) (by simp only [maxLen]; omega) (by omega) ?_)
      intro v' w2 hO2 hE2 hF2
      rw [hv] at hF
      have B2 : Blk w2 w.heap.size [vf, .slice none 0 0, .slice none 0 0, .int .i64 (-1), .bool false] 75 :=
        (HB.out.alloc _).ext hE2 (fun e => by have := hF.out _ e; omega)
      have q0 := B2.cell (i := 0) rfl
      have s0 := B2.fr 0
      have FR : ∀ j, fp v' = some j → w.heap.size < j := fun j hj => (hF2 j hj).elim (fun h => hF.out j h) (fun h => by omega)
      have kB := B2.set 0 v'
      have kO : Own (w2.setCell ⟨w.heap.size, 0, none⟩ v') v' 9 1 (k + 1) (strs (List.replicate (k + 1) blank)) := by
        have := hO2.far (p := ⟨w.heap.size, 0, none⟩) v' (fun e => by have := FR _ e; simp at this)
        rw [List.replicate_succ', strs, List.map_append]
        rw [Hbl.out] at this
        exact this
      have kE : Ext NoB w (w2.setCell ⟨w.heap.size, 0, none⟩ v') :=
        ((hE.alloc _).trans hE2 (fun j hj hx => by have := hF.out j hx; omega)).setCell _ (fun h => by simp at h)
      have KB := Lib.hid kB
      have KO := Lib.hid kO
      have KE := Lib.hid kE
      have kF : Hid (∀ j, fp v' = some j → w.heap.size < j) := FR
      obtain ⟨bv, cv, hvv, hvv1, hvv2⟩ := hO2.shape
      clear hO2 hE2 hF2 B2 FR kB kO kE hF
      rw [hvv] at KB KO KE kF ⊢
      clear hvv
      go_wp2_with fail
      go_roundw
      case rel => exact ⟨k + 1, _, by omega, by go_num, KB.out, KO.out, kF, KE.out⟩
      case measure => simp [intOf]; omega
    · have hkn : k = n := by omega
      subst hkn
      go_wp2_with (at_builtin; refine wpList_append_Own rfl _ _ 54 54 rfl 9 1 16 _ Try.underlying54 (.inl Try.underlying54) info9 rfl _ 0 [] rfl (Own.nil _ _ _) _ rfl k (strs (List.replicate k blank)) HO.out.src (strs_rep _ _) (strs_one _) (by simp only [maxLen]; omega) (by omega) ?_)
      intro v' w2 hO2 hE2 hF2
      rw [hv] at hF
      have hno : ∀ j, fp (Value.slice none 0 0) ≠ some j := by simp [fp]
      have B2 : Blk w2 w.heap.size [vf, .slice none 0 0, .slice none 0 0, .int .i64 (-1), .bool false] 75 := HB.out.ext hE2 (hno _)
      have q2 := B2.cell (i := 2) rfl
      have s2 := B2.fr 2
      have FR : ∀ j, fp v' = some j → wr.heap.size ≤ j := fun j hj => (hF2 j hj).elim (fun h => absurd h (hno _)) id
      have kE : Ext NoB w (w2.setCell ⟨w.heap.size, 2, none⟩ v') :=
        (hE.trans hE2 (fun j hj hx => absurd hx (hno _))).setCell _ (fun h => by simp at h)
      have hO1 : Own w2 (.slice bs k caps) 9 1 k (strs (List.replicate k blank)) := HO.out.ext hE2 (fun j _ hx => hno _ hx)
      have key : DiskAt (w2.setCell ⟨w.heap.size, 2, none⟩ v') w.heap.size (Dk.fresh (List.replicate k blank)) (Fsh NoB w) := by
        refine ⟨.slice bs k caps, .slice none 0 0, v', ?_, ?_, Own.nil _ _ _, ?_, .inr (Nat.le_refl _), fun j hj => ?_, fun j hj => absurd hj (hno _), fun j hj => ?_, fun j _ e => hno _ e, fun j hj e => ?_, fun j hj => absurd hj (hno _)⟩
        · have := B2.set 2 v'
          rw [hv] at this
          exact this
        · have := hO1.far (p := ⟨w.heap.size, 2, none⟩) v' (fun e => by have := hF.out _ e; simp at this)
          simpa [Dk.fresh] using this
        · have := hO2.far (p := ⟨w.heap.size, 2, none⟩) v' (fun e => by have := FR _ e; simp at this; omega)
          simpa [Dk.fresh, Dk.seen] using this
        · have := hF.out j hj; exact ⟨.inr (by omega), by omega⟩
        · have := FR j hj; exact ⟨.inr (by omega), by omega⟩
        · have := FR j e; have := HO.out.lt hj; omega
      obtain ⟨bv, cv, hvv, hvv1, hvv2⟩ := hO2.shape
      have KEY := Lib.hid key
      have KE := Lib.hid kE
      clear hO2 hE2 hF2 B2 FR key kE hF hO1
      rw [hvv] at KEY KE ⊢
      clear hvv
      go_wp2_with fail
      go_ret2
      exact ⟨rfl, KEY.out, KE.out⟩
end Go.Proofs.Ytdhklomnaodcnaa
