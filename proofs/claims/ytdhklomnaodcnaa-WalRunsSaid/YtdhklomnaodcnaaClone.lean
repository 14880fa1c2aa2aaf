/- slices.Clone at records and at bytes: walks. -/
import Derived.Test.YtdhklomnaodcnaaLg2
namespace Go.Proofs.Ytdhklomnaodcnaa
open Go.RowKit

/-- A window: n elements of size cells, that read xs. -/
def Win (w : World) (v : Value) (size n : Nat) (xs : List Value) : Prop :=
  (∃ base cap, v = .slice base 0 cap ∧ n = 0 ∧ xs = []) ∨
  ∃ g o cap, v = .slice (some ⟨g, o, none⟩) n cap ∧ xs.length = n * size ∧ ∀ i u, xs[i]? = some u → w.cell? ⟨g, o + i, none⟩ = some u

theorem Win.src {P : Program} {w : World} {v : Value} {size n : Nat} {xs : List Value} (h : Win w v size n xs) : Src P w size v n xs := by
  rcases h with ⟨base, cap, rfl, rfl, rfl⟩ | ⟨g, o, cap, rfl, hl, hc⟩
  · exact Src.empty base
  · exact Src.slice hl (fun j u hu => by rw [Addr.add_lit]; exact hc j u hu)
theorem Win.len {w : World} {v : Value} {size n : Nat} {xs : List Value} (h : Win w v size n xs) : xs.length = n * size := by
  rcases h with ⟨base, cap, rfl, rfl, rfl⟩ | ⟨g, o, cap, rfl, hl, hc⟩
  · simp
  · exact hl
theorem Win.ext {w w' : World} {v : Value} {size n : Nat} {xs : List Value} (h : Win w v size n xs) (e : Ext NoB w w') : Win w' v size n xs := by
  rcases h with h | ⟨g, o, cap, rfl, hl, hc⟩
  · exact .inl h
  · refine .inr ⟨g, o, cap, rfl, hl, fun i u hu => ?_⟩
    have := hc i u hu
    rw [← this]
    exact World.cell?_of_block (a := ⟨g, o + i, none⟩) (e.block g (World.block_lt_of_cell? w _ this) id)
/-- From element i on, where that is not the end of the room. -/
theorem Own.sub {w : World} {t : TypeId} {size n cap g i : Nat} {xs : List Value} (h : Own w (.slice (some ⟨g, 0, none⟩) n cap) t size n xs) (hi : i ≤ n) :
    Win w (.slice (some ⟨g, i * size, none⟩) (n - i) (cap - i)) size (n - i) (xs.drop (i * size)) := by
  refine .inr ⟨g, i * size, cap - i, rfl, ?_, fun j u hu => ?_⟩
  · rw [List.length_drop, h.1, Nat.sub_mul]
  · rw [List.getElem?_drop] at hu
    exact h.cell rfl hu

set_option maxHeartbeats 1000000 in
theorem clone_e_calls (v : Value) (n : Nat) (xs : List Value) (w : World) (h : Win w v 2 n xs) (hn : n ≤ 1000000) (h1 : ∀ u ∈ xs, u.oneCell' = true) :
    Calls Try.prog 45 #[v] w fun e w' => ∃ v', e = .returned v' ∧ Own w' v' 86 2 n xs ∧ Ext NoB w w' ∧ (∀ k, fp v' = some k → w.heap.size ≤ k) := by
  have hql := fun w a n c => Lib.run_eql_slice_nil (P := Try.prog) w 58 86 a n c 0 0 Try.underlying58
  have main : ∀ (ad : Addr) (cap : Nat), v = .slice (some ad) n cap → Calls Try.prog 45 #[v] w fun e w' => ∃ v', e = .returned v' ∧ Own w' v' 86 2 n xs ∧ Ext NoB w w' ∧ (∀ k, fp v' = some k → w.heap.size ≤ k) := by
    intro ad cap hv
    have HW := Lib.hid h
    have H1 := Lib.hid h1
    subst hv
    clear h h1
    go_enter Try.func45, Try.ntmps45
    go_wp2_with (at_builtin; refine wpList_append_Own rfl _ _ 58 58 rfl 86 2 24 _ Try.underlying58 (.inl Try.underlying58) info86 rfl _ 0 [] rfl (Own.zero _ _ _ _) _ rfl n xs (HW.out.ext ((Ext.refl _ _).alloc _)).src HW.out.len H1.out (by simp only [maxLen]; omega) (by omega) ?_)
    intro v' w2 hO2 hE2 hF2
    have KO : Hid (Own w2 v' 86 2 n xs) := hO2
    have KE : Hid (Ext NoB w w2) := ((Ext.refl NoB w).alloc _).trans hE2 (fun k _ hk => by simp [fp] at hk)
    have KF : Hid (∀ k, fp v' = some k → w.heap.size ≤ k) := fun k hk => by
      rcases hF2 k hk with h | h
      · simp [fp] at h
      · omega
    clear hO2 hE2 hF2
    go_wp2_with fail
    go_ret
    exact ⟨_, rfl, KO.out, KE.out, KF.out⟩
  rcases id h with ⟨base, cap, hv, rfl, rfl⟩ | ⟨g, o, cap, hv, hl, hc⟩
  · cases base with
    | some ad => exact main ad cap hv
    | none =>
      subst hv
      clear main h h1
      go_enter Try.func45, Try.ntmps45
      go_wp2_with fail
      go_ret
      exact ⟨_, rfl, Own.nil _ _ _, Ext.refl _ _, by simp [fp]⟩
  · exact main _ cap hv

set_option maxHeartbeats 1000000 in
theorem clone_b_calls (v : Value) (n : Nat) (xs : List Value) (w : World) (h : Win w v 1 n xs) (hn : n ≤ 1000000) (h1 : ∀ u ∈ xs, u.oneCell' = true) :
    Calls Try.prog 46 #[v] w fun e w' => ∃ v', e = .returned v' ∧ Own w' v' 5 1 n xs ∧ Ext NoB w w' ∧ (∀ k, fp v' = some k → w.heap.size ≤ k) := by
  have hql := fun w a n c => Lib.run_eql_slice_nil (P := Try.prog) w 76 5 a n c 0 0 Try.underlying76
  have main : ∀ (ad : Addr) (cap : Nat), v = .slice (some ad) n cap → Calls Try.prog 46 #[v] w fun e w' => ∃ v', e = .returned v' ∧ Own w' v' 5 1 n xs ∧ Ext NoB w w' ∧ (∀ k, fp v' = some k → w.heap.size ≤ k) := by
    intro ad cap hv
    have HW := Lib.hid h
    have H1 := Lib.hid h1
    subst hv
    clear h h1
    go_enter Try.func46, Try.ntmps46
    go_wp2_with (at_builtin; refine wpList_append_Own rfl _ _ 76 76 rfl 5 1 1 _ Try.underlying76 (.inl Try.underlying76) info5 rfl _ 0 [] rfl (Own.zero _ _ _ _) _ rfl n xs (HW.out.ext ((Ext.refl _ _).alloc _)).src HW.out.len H1.out (by simp only [maxLen]; omega) (by omega) ?_)
    intro v' w2 hO2 hE2 hF2
    have KO : Hid (Own w2 v' 5 1 n xs) := hO2
    have KE : Hid (Ext NoB w w2) := ((Ext.refl NoB w).alloc _).trans hE2 (fun k _ hk => by simp [fp] at hk)
    have KF : Hid (∀ k, fp v' = some k → w.heap.size ≤ k) := fun k hk => by
      rcases hF2 k hk with h | h
      · simp [fp] at h
      · omega
    clear hO2 hE2 hF2
    go_wp2_with fail
    go_ret
    exact ⟨_, rfl, KO.out, KE.out, KF.out⟩
  rcases id h with ⟨base, cap, hv, rfl, rfl⟩ | ⟨g, o, cap, hv, hl, hc⟩
  · cases base with
    | some ad => exact main ad cap hv
    | none =>
      subst hv
      clear main h h1
      go_enter Try.func46, Try.ntmps46
      go_wp2_with fail
      go_ret
      exact ⟨_, rfl, Own.nil _ _ _, Ext.refl _ _, by simp [fp]⟩
  · exact main _ cap hv
end Go.Proofs.Ytdhklomnaodcnaa
