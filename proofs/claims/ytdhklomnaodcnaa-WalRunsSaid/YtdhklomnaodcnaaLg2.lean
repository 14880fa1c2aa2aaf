/- wal's Append: the walk. -/
import Derived.Test.YtdhklomnaodcnaaLg1
import Derived.Test.YtdhklomnaodcnaaRefO
import Derived.Test.YtdhklomnaodcnaaOct
namespace Go.Proofs.Ytdhklomnaodcnaa
open Go.RowKit

theorem info86 : (Try.prog.info? 86).map (fun i => (i.zero, i.size, i.bytes)) = some (some (.agg #[.int .i64 0, .string ⟨#[]⟩]), 2, 24) := by kernel_rfl
theorem bytesV_one (l : List UInt8) : ∀ u ∈ bytesV l, u.oneCell' = true := by
  intro u hu
  obtain ⟨s, _, rfl⟩ := List.mem_map.1 hu
  rfl
theorem bytesV_length (l : List UInt8) : (bytesV l).length = l.length := by simp [bytesV]

theorem room_small {L : Lg} (h : L.Ok) : L.room ≤ 221184 ∧ 0 ≤ L.room := by
  have := h.n2; have := h.bcap; have := h.blen
  unfold Lg.room; omega

set_option maxHeartbeats 2000000 in
set_option maxRecDepth 100000 in
theorem append_calls (b bd : Nat) (L : Lg) (F : Nat → Prop) (w : World) (h : LogAt w b L bd F) (hok : L.Ok) (hbig : L.fin ≤ 4611686018427300000) (r : ByteArray) (hr63 : r.size ≤ 9223372036854775000) (a c : Int) (L' : Lg) (hr : L.append r = ((a, c), L')) :
    Calls Try.prog 11 #[.pointer (some ⟨b, 0, none⟩), .string r] w fun e w' => e = .returned (.tuple #[.int .i64 a, .int .i64 c]) ∧ LogAt w' b L' bd (Fsh F w) ∧ Ext F w w' := by
  unfold Lg.append at hr
  have hrm := room_small hok
  by_cases h0 : r.size = 0
  · rw [if_pos h0] at hr
    simp only [Prod.mk.injEq] at hr
    obtain ⟨⟨rfl, rfl⟩, rfl⟩ := hr
    have key : LogAt w b L bd (Fsh F w) := h.mono (fun _ _ h => .inl h)
    have e0 : r = ⟨#[]⟩ := by
      rcases r with ⟨d⟩
      have : d.size = 0 := h0
      rw [Array.eq_empty_of_size_eq_zero this]
    clear h
    subst e0
    go_enter Try.func11, Try.ntmps11
    go_wp2_with fail
    go_ret2
    exact ⟨rfl, key, Ext.refl _ _⟩
  · rw [if_neg h0] at hr
    have hne : r.toList.isEmpty = false := by
      rw [ByteArray.toList_eq]
      cases hd : r.data.toList with
      | nil => exfalso; apply h0; show r.data.size = 0; rw [← Array.length_toList, hd]; rfl
      | cons _ _ => rfl
    by_cases h1 : 65535 < r.size
    · rw [if_pos h1] at hr
      simp only [Prod.mk.injEq] at hr
      obtain ⟨⟨rfl, rfl⟩, rfl⟩ := hr
      have key : LogAt w b L bd (Fsh F w) := h.mono (fun _ _ h => .inl h)
      clear h
      go_enter Try.func11, Try.ntmps11
      go_wp2_with fail
      go_ret2
      exact ⟨rfl, key, Ext.refl _ _⟩
    · rw [if_neg h1] at hr
      have HR := Lib.hid (room_calls b bd L F w h hok)
      by_cases h2 : L.room < 2 + (r.size : Int)
      · rw [if_pos h2] at hr
        simp only [Prod.mk.injEq] at hr
        obtain ⟨⟨rfl, rfl⟩, rfl⟩ := hr
        have key : LogAt w b L bd (Fsh F w) := h.mono (fun _ _ h => .inl h)
        clear h
        go_enter Try.func11, Try.ntmps11
        go_wp2_with (go_at_call 28; (with_reducible refine HR.out.mono ?_); rintro e w1 ⟨rfl, m, rfl⟩)
        go_ret2
        exact ⟨rfl, key.ext (Ext.ofDrew w m) (fun _ _ _ => id), (Ext.ofDrew w m).mono (fun _ _ h => h.elim)⟩
      · rw [if_neg h2] at hr
        simp only [Prod.mk.injEq] at hr
        obtain ⟨⟨rfl, rfl⟩, rfl⟩ := hr
        have hll := hok.list_length
        have hbc := hok.bcap
        have hn2 := hok.n2
        have hff : L.buf.length ≤ 221184 := by omega
        have hrs : r.size ≤ 65535 := by omega
        have c4 : w.cell? ⟨b, 4, none⟩ = some (.int .i64 L.fin) := by
          obtain ⟨vb, vl, hb, _⟩ := h
          exact hb.cell rfl
        have HH := Lib.hid h
        clear h
        have HN := Lib.hid (fun w => num2_calls r.size (by omega) w)
        go_enter Try.func11, Try.ntmps11
        go_wp2_with (go_at_call 28; (with_reducible refine HR.out.mono ?_); rintro e w1 ⟨rfl, m, rfl⟩)
        refine (HN.out _).mono ?_
        rintro e w1 ⟨rfl, hB1⟩
        have e1 : Ext NoB w w1 := (Ext.ofDrew w m).bel hB1
        have X1 : Hid (Ext F w w1) := e1.no
        obtain ⟨vb, vl, hb, k1, k2, fb, f1, f2, d⟩ := (HH.out.ext e1 (fun _ _ _ => id)).mono (F' := Fsh F w) (fun _ _ h => .inl h)
        clear hB1 c4 e1
        obtain ⟨bb, cb, rfl, _, _⟩ := k1.shape
        have c7 := hb.cell (i := 7) rfl
        have K1 := Lib.hid k1
        have K2 := Lib.hid k2
        have KB := Lib.hid hb
        have G1 := Lib.hid f1
        have G2 := Lib.hid f2
        have GD := Lib.hid d
        clear k1 k2 hb f1 f2 d
        have S1 : Hid (Src Try.prog w1 1 (.string ⟨(le 2 r.size).toArray⟩) 2 (bytesV (le 2 r.size))) := by
          have := Src.string (P := Try.prog) (w := w1) ⟨(le 2 r.size).toArray⟩
          have e : (⟨(le 2 r.size).toArray⟩ : ByteArray).size = 2 := by show (le 2 r.size).toArray.size = 2; simp [le_length]
          rw [e] at this
          exact this
        go_wp2_with (at_builtin; refine wpList_append_Own rfl _ _ 76 9 rfl 5 1 1 _ Try.underlying76 (.inr Try.underlying9) info5 rfl _ L.buf.length (bytesV L.buf) rfl K1.out _ rfl 2 (bytesV (le 2 r.size)) S1.out (by rw [bytesV_length, le_length]) (bytesV_one _) (by simp only [maxLen]; omega) (by omega) ?_)
        intro v2 w2 hO2 hE2 hF2
        obtain ⟨hL2, hX2⟩ := LogAt.putBuf (buf' := L.buf ++ le 2 r.size) KB.out K2.out fb G1.out G2.out GD.out (by rw [List.length_append, le_length]; simpa [bytesV] using hO2) hE2 hF2
        obtain ⟨b2, c2, hv2, _, _⟩ := hO2.shape
        have B2 := KB.out.ext hE2 (fun e => (G1.out b e).2 rfl)
        have q7 := B2.cell (i := 7) rfl
        have s7 := B2.fr 7
        obtain ⟨W2, hW2⟩ : ∃ W, w2.setCell ⟨b, 7, none⟩ v2 = W := ⟨_, rfl⟩
        rw [hW2] at hL2 hX2
        have X2 : Hid (Ext F w W2) := X1.out.fsh hX2
        obtain ⟨vb, vl, hb, k1, k2, fb, f1, f2, d⟩ := hL2.mono (F' := Fsh F w) (fun k _ h => Fsh.up X1.out.size k h)
        rw [hv2] at hW2 ⊢
        clear hv2 hL2 hX2 hO2 hE2 hF2 B2 c7 K1 K2 KB G1 G2 GD X1
        -- the second append
        dsimp only at hb k1 k2
        rw [List.length_append, le_length] at k1
        obtain ⟨bb, cb, rfl, _, _⟩ := k1.shape
        have c7 := hb.cell (i := 7) rfl
        have K1 := Lib.hid k1
        have K2 := Lib.hid k2
        have KB := Lib.hid hb
        have G1 := Lib.hid f1
        have G2 := Lib.hid f2
        have GD := Lib.hid d
        clear k1 k2 hb f1 f2 d
        go_wp2_with (at_builtin; refine wpList_append_Own rfl _ _ 76 9 rfl 5 1 1 _ Try.underlying76 (.inr Try.underlying9) info5 rfl _ (L.buf.length + 2) (bytesV (L.buf ++ le 2 r.size)) rfl K1.out _ rfl r.size (bytesV r.data.toList) (Src.string r) (by rw [bytesV_length]; simp) (bytesV_one _) (by simp only [maxLen]; omega) (by omega) ?_)
        intro v3 w3 hO3 hE3 hF3
        obtain ⟨hL3, hX3⟩ := LogAt.putBuf (L := { L with buf := L.buf ++ le 2 r.size }) (buf' := L.buf ++ le 2 r.size ++ r.data.toList) KB.out K2.out fb G1.out G2.out GD.out (by
          rw [List.length_append, List.length_append, le_length]
          have e : r.data.toList.length = r.size := by rw [Array.length_toList]; rfl
          rw [e]
          simpa [bytesV] using hO3) hE3 hF3
        obtain ⟨b3, c3, hv3, _, _⟩ := hO3.shape
        have B3 := KB.out.ext hE3 (fun e => (G1.out b e).2 rfl)
        have q7' := B3.cell (i := 7) rfl
        have s7' := B3.fr 7
        obtain ⟨W3, hW3⟩ : ∃ W, w3.setCell ⟨b, 7, none⟩ v3 = W := ⟨_, rfl⟩
        rw [hW3] at hL3 hX3
        have X3 : Ext F w W3 := X2.out.fsh hX3
        have hL3 := hL3.mono (F' := Fsh F w) (fun k _ h => Fsh.up X2.out.size k h)
        rw [hv3] at hW3 ⊢
        clear hv3 hO3 hE3 hF3 B3 c7 K1 K2 KB G1 G2 GD q7 s7 hX3 X2
        have e4 : ((L.fin + (2 + r.size) : Nat) : Int) = (L.fin : Int) + (2 + (r.size : Int)) := by omega
        obtain ⟨hL4, hX4⟩ := hL3.putFin (L.fin + (2 + r.size))
        rw [e4] at hL4 hX4
        obtain ⟨W4, hW4⟩ : ∃ W, W3.setCell ⟨b, 4, none⟩ (.int .i64 ((L.fin : Int) + (2 + (r.size : Int)))) = W := ⟨_, rfl⟩
        rw [hW4] at hL4 hX4
        have c4 : W3.cell? ⟨b, 4, none⟩ = some (.int .i64 L.fin) := by obtain ⟨_, _, hb, _⟩ := hL3; exact hb.cell rfl
        have r4 : W3.frozen? ⟨b, 4, none⟩ = false := by obtain ⟨_, _, hb, _⟩ := hL3; exact hb.fr 4
        have X4 : Hid (Ext F w W4) := X3.fsh hX4
        have hsz := hL4.lt
        obtain ⟨vb, vl, hb, k1, k2, fb, f1, f2, d⟩ := hL4
        clear hL3 e4 hX4 X3
        dsimp only at hb k1 k2
        obtain ⟨bl, cl, rfl, _, _⟩ := k2.shape
        have c8 := hb.cell (i := 8) rfl
        have K1 := Lib.hid k1
        have K2 := Lib.hid k2
        have KB := Lib.hid hb
        have G1 := Lib.hid f1
        have G2 := Lib.hid f2
        have GD := Lib.hid d
        clear k1 k2 hb f1 f2 d
        go_wp2_with (at_builtin; refine wpList_append_Own rfl _ _ 58 58 rfl 86 2 24 _ Try.underlying58 (.inl Try.underlying58) info86 rfl _ L.list.length (softCells L.list) rfl (K2.out.alloc _) _ rfl 1 [.int .i64 L.fin, .string r] (Src.two _ _ _ _) rfl (by simp [Value.oneCell']) (by simp only [maxLen]; omega) (by omega) ?_)
        intro v5 w5 hO5 hE5 hF5
        obtain ⟨hL5, hX5⟩ := LogAt.putList (L := { L with buf := L.buf ++ le 2 r.size ++ r.data.toList, fin := L.fin + (2 + r.size) }) (list' := L.list ++ [(L.fin, r)]) (KB.out.alloc (.cells #[.int .i64 L.fin, .string r] 86)) (K1.out.alloc _) fb G1.out G2.out GD.out (by
          rw [List.length_append, softCells_snoc]
          exact hO5) hE5 (fun k hk => (hF5 k hk).imp id (fun h => by rw [World.size_alloc]; exact h))
        obtain ⟨b5, c5, hv5, _, _⟩ := hO5.shape
        have B5 := (KB.out.alloc (.cells #[.int .i64 L.fin, .string r] 86)).ext hE5 (fun e => (G2.out b e).2 rfl)
        have q8 := B5.cell (i := 8) rfl
        have s8 := B5.fr 8
        have X4' : Ext F w (W4.alloc (.cells #[.int .i64 L.fin, .string r] 86)) := X4.out.alloc _
        have X5 := Lib.hid (X4'.fsh hX5)
        have HL5 := Lib.hid (hL5.mono (F' := Fsh F w) (fun k _ h => Fsh.up X4'.size k h))
        clear hL5 hX5 hO5 hE5 hF5 B5 c8 K1 K2 KB G1 G2 GD X4 X4'
        rw [hv5] at X5 HL5 ⊢
        clear hv5
        go_wp2_with fail
        go_ret2
        exact ⟨rfl, HL5.out, X5.out⟩
end Go.Proofs.Ytdhklomnaodcnaa
