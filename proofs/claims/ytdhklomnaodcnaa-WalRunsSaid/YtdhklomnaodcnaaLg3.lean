/- jettyref07's Append: the walk. -/
import Derived.Test.YtdhklomnaodcnaaLg2
import Derived.Deep.RegionLaw
namespace Go.Proofs.Ytdhklomnaodcnaa
open Go.RowKit

theorem ba_join (l1 l2 : List UInt8) (r : ByteArray) : (⟨l1.toArray⟩ : ByteArray) ++ ((⟨l2.toArray⟩ : ByteArray) ++ r) = ⟨(l1 ++ l2 ++ r.data.toList).toArray⟩ := by
  apply ByteArray.ext
  simp [ByteArray.data_append]

set_option maxHeartbeats 2000000 in
set_option maxRecDepth 100000 in
theorem rappend_calls (b bd : Nat) (L : Lg) (F : Nat → Prop) (w : World) (h : RLogAt w b L bd F) (hok : L.Ok) (hbig : L.fin ≤ 4611686018427300000) (r : ByteArray) (hr63 : r.size ≤ 9223372036854775000) (a c : Int) (L' : Lg) (hr : L.append r = ((a, c), L')) :
    Calls Try.prog 12 #[.pointer (some ⟨b, 0, none⟩), .string r] w fun e w' => e = .returned (.tuple #[.int .i64 a, .int .i64 c]) ∧ RLogAt w' b L' bd (Fsh F w) ∧ Ext F w w' := by
  unfold Lg.append at hr
  have hrm := room_small hok
  by_cases h0 : r.size = 0
  · rw [if_pos h0] at hr
    simp only [Prod.mk.injEq] at hr
    obtain ⟨⟨rfl, rfl⟩, rfl⟩ := hr
    have key : RLogAt w b L bd (Fsh F w) := h.mono (fun _ _ h => .inl h)
    have e0 : r = ⟨#[]⟩ := by
      rcases r with ⟨d⟩
      have : d.size = 0 := h0
      rw [Array.eq_empty_of_size_eq_zero this]
    clear h
    subst e0
    go_enter Try.func12, Try.ntmps12
    go_wp2_with fail
    go_ret2
    exact ⟨rfl, key, Ext.refl _ _⟩
  · rw [if_neg h0] at hr
    have hne : r.toList.isEmpty = false := by
      rw [ByteArray.toList_eq]
      cases hd : r.data.toList with
      | nil => exfalso; apply h0; show r.data.size = 0; rw [← Array.length_toList, hd]; rfl
      | cons _ _ => rfl
    by_cases h1 : 65535 < r.size
    · rw [if_pos h1] at hr
      simp only [Prod.mk.injEq] at hr
      obtain ⟨⟨rfl, rfl⟩, rfl⟩ := hr
      have key : RLogAt w b L bd (Fsh F w) := h.mono (fun _ _ h => .inl h)
      clear h
      go_enter Try.func12, Try.ntmps12
      go_wp2_with fail
      go_ret2
      exact ⟨rfl, key, Ext.refl _ _⟩
    · rw [if_neg h1] at hr
      have HR := Lib.hid (rroom_calls b bd L F w h hok)
      by_cases h2 : L.room < 2 + (r.size : Int)
      · rw [if_pos h2] at hr
        simp only [Prod.mk.injEq] at hr
        obtain ⟨⟨rfl, rfl⟩, rfl⟩ := hr
        have key : RLogAt w b L bd (Fsh F w) := h.mono (fun _ _ h => .inl h)
        have h2' : L.room < (r.size : Int) + 2 := by omega
        clear h
        go_enter Try.func12, Try.ntmps12
        go_wp2_with (go_at_call 29; (with_reducible refine HR.out.mono ?_); rintro e w1 ⟨rfl, m, rfl⟩)
        go_ret2
        exact ⟨rfl, key.ext (Ext.ofDrew w m) (fun _ _ _ => id), (Ext.ofDrew w m).no⟩
      · rw [if_neg h2] at hr
        simp only [Prod.mk.injEq] at hr
        obtain ⟨⟨rfl, rfl⟩, rfl⟩ := hr
        have h2' : ¬ L.room < (r.size : Int) + 2 := by omega
        have hll := hok.list_length
        have hbc := hok.bcap
        have hn2 := hok.n2
        have hff : L.buf.length ≤ 221184 := by omega
        have hrs : r.size ≤ 65535 := by omega
        have HH := Lib.hid h
        clear h
        have HP := Lib.hid (fun w => put2_calls r.size (by omega) w)
        go_enter Try.func12, Try.ntmps12
        go_wp2_with fail
        refine HR.out.mono ?_
        rintro e w1 ⟨rfl, m, hm⟩
        have e1 : Ext NoB w w1 := by rw [hm]; exact Ext.ofDrew w m
        clear hm
        have X1 : Hid (Ext F w w1) := e1.no
        have hL1 := (HH.out.ext e1 (fun _ _ _ => id)).mono (F' := Fsh F w) (fun _ _ h => .inl h)
        have hsz1 := hL1.lt
        clear e1
        have c4 : w1.cell? ⟨b, 4, none⟩ = some (.int .i64 L.fin) := by obtain ⟨_, hb, _⟩ := hL1; exact hb.cell rfl
        have c6 : ∀ w', Ext NoB w1 w' → w'.cell? ⟨b, 6, none⟩ = some (.string ⟨L.buf.toArray⟩) := fun w' e => by obtain ⟨_, hb, _⟩ := hL1; exact (hb.ext e id).cell rfl
        have r6 : ∀ w', Ext NoB w1 w' → w'.frozen? ⟨b, 6, none⟩ = false := fun w' e => by obtain ⟨_, hb, _⟩ := hL1; exact (hb.ext e id).fr 6
        have HL1 := Lib.hid hL1
        clear hL1
        have e0 := (Ext.refl NoB w1).drew
        have hl2 : (le 2 r.size).length = 2 := le_length _ _
        have qa : ¬ 9223372036854775807 < 2 + r.size := by omega
        have qb : ¬ 9223372036854775807 < L.buf.length + (2 + r.size) := by omega
        go_wp2_with fail
        go_region_with (go_at_call 40; (with_reducible refine (HP.out _).mono ?_); rintro e w2 ⟨rfl, hE2⟩; have e2 := e0.trans hE2 (fun _ _ h => h))
        all_goals
          have X2 : Ext F w w2 := X1.out.trans e2 (fun _ _ h => h.elim)
          have hL2 := HL1.out.ext e2 (fun _ _ _ => id)
          obtain ⟨hL3, hX3⟩ := hL2.putBuf (L.buf ++ le 2 r.size ++ r.data.toList)
          rw [← ba_join] at hL3 hX3
          obtain ⟨W3, hW3⟩ : ∃ W, w2.setCell ⟨b, 6, none⟩ (.string (⟨L.buf.toArray⟩ ++ (⟨(le 2 r.size).toArray⟩ ++ r))) = W := ⟨_, rfl⟩
          rw [hW3] at hL3 hX3
          have X3 : Ext F w W3 := X2.fsh hX3
          clear hL2 hX3 X2 hE2 e2 c6 r6 c4 e0
          have e4 : ((L.fin + (2 + r.size) : Nat) : Int) = (L.fin : Int) + (2 + (r.size : Int)) := by omega
          have c4 : W3.cell? ⟨b, 4, none⟩ = some (.int .i64 L.fin) := by obtain ⟨_, hb, _⟩ := hL3; exact hb.cell rfl
          have r4 : W3.frozen? ⟨b, 4, none⟩ = false := by obtain ⟨_, hb, _⟩ := hL3; exact hb.fr 4
          obtain ⟨hL4, hX4⟩ := hL3.putFin (L.fin + (2 + r.size))
          rw [e4] at hL4 hX4
          obtain ⟨W4, hW4⟩ : ∃ W, W3.setCell ⟨b, 4, none⟩ (.int .i64 ((L.fin : Int) + (2 + (r.size : Int)))) = W := ⟨_, rfl⟩
          rw [hW4] at hL4 hX4
          have X4 : Hid (Ext F w W4) := X3.fsh hX4
          have hsz := hL4.lt
          clear hL3 e4 hX4 X3
          obtain ⟨vl, hb, k2, fb, f2⟩ := hL4
          dsimp only at hb k2
          obtain ⟨bl, cl, rfl, _, _⟩ := k2.shape
          have c7 := hb.cell (i := 7) rfl
          have K2 := Lib.hid k2
          have KB := Lib.hid hb
          have G2 := Lib.hid f2
          clear k2 hb f2
          go_wp2_with (at_builtin; refine wpList_append_Own rfl _ _ 58 58 rfl 86 2 24 _ Try.underlying58 (.inl Try.underlying58) info86 rfl _ L.list.length (softCells L.list) rfl (K2.out.alloc _) _ rfl 1 [.int .i64 L.fin, .string r] (Src.two _ _ _ _) rfl (by simp [Value.oneCell']) (by simp only [maxLen]; omega) (by omega) ?_)
          intro v5 w5 hO5 hE5 hF5
          obtain ⟨hL5, hX5⟩ := RLogAt.putList (L := { L with buf := L.buf ++ le 2 r.size ++ r.data.toList, fin := L.fin + (2 + r.size) }) (list' := L.list ++ [(L.fin, r)]) (by
            have := KB.out.alloc (.cells #[.int .i64 L.fin, .string r] 86)
            exact this) fb G2.out (by
            rw [List.length_append, softCells_snoc]
            exact hO5) hE5 (fun k hk => (hF5 k hk).imp id (fun h => by rw [World.size_alloc]; exact h))
          obtain ⟨b5, c5, hv5, _, _⟩ := hO5.shape
          have B5 := (KB.out.alloc (.cells #[.int .i64 L.fin, .string r] 86)).ext hE5 (fun e => (G2.out b e).2 rfl)
          have q7 := B5.cell (i := 7) rfl
          have s7 := B5.fr 7
          have X4' : Ext F w (W4.alloc (.cells #[.int .i64 L.fin, .string r] 86)) := X4.out.alloc _
          have X5 := Lib.hid (X4'.fsh hX5)
          have HL5 := Lib.hid (hL5.mono (F' := Fsh F w) (fun k _ h => Fsh.up X4'.size k h))
          clear hL5 hX5 hO5 hE5 hF5 B5 c7 K2 KB G2 X4 X4'
          rw [hv5] at X5 HL5 ⊢
          clear hv5
          go_wp2_with fail
          go_ret2
          exact ⟨rfl, HL5.out, X5.out⟩
end Go.Proofs.Ytdhklomnaodcnaa
