/- wal's load: the walk. -/
import Derived.Test.YtdhklomnaodcnaaOp
import Derived.Test.YtdhklomnaodcnaaOctR
import Derived.Test.YtdhklomnaodcnaaDk1
import Derived.BigQuiet
namespace Go.Proofs.Ytdhklomnaodcnaa
open Go.RowKit

/-- What load answers. -/
def decS (k : Nat) (s : ByteArray) : ByteArray := match dec k s with | none => ⟨#[]⟩ | some l => ⟨l.toArray⟩

theorem extract_list (s : ByteArray) (i j : Nat) : (s.extract i j).data.toList = (s.data.toList.drop i).take (j - i) := by
  rw [ByteArray.data_extract, Array.toList_extract, List.extract_eq_take_drop]

set_option maxHeartbeats 2000000 in
set_option maxRecDepth 100000 in
theorem load_calls (b bd : Nat) (first n : Nat) (D : Dk) (F : Nat → Prop) (w : World) (hd : DiskAt w bd D F) (hok : D.Ok) (hdn : D.down = false) (h1 : 1 ≤ n) (hring : first + n ≤ D.firm.length)
    (c0 : w.cell? ⟨b, 0, none⟩ = some (.pointer (some ⟨bd, 0, none⟩))) (c1 : w.cell? ⟨b, 1, none⟩ = some (.int .i64 first)) (c2 : w.cell? ⟨b, 2, none⟩ = some (.int .i64 n)) (k : Nat) (hk : k ≤ 4611686018427387904) :
    Calls Try.prog 48 #[.pointer (some ⟨b, 0, none⟩), .int .i64 k] w fun e w' => e = .returned (.tuple #[.string (decS k (D.seen.getD (first + k % n) ⟨#[]⟩)), .bool (dec k (D.seen.getD (first + k % n) ⟨#[]⟩)).isSome, .int .i64 0]) ∧ Ext NoB w w' := by
  have hmod := Nat.mod_lt k (show 0 < n by omega)
  have hlen := hok.len
  have hsl := D.seen_length
  obtain ⟨j, hj⟩ : ∃ x, first + k % n = x := ⟨_, rfl⟩
  obtain ⟨s, hs⟩ : ∃ x, D.seen.getD j ⟨#[]⟩ = x := ⟨_, rfl⟩
  have hs64 : s.size = 64 := by
    rw [← hs, List.getD_eq_getElem?_getD, List.getElem?_eq_getElem (by omega)]
    exact Dk.seen64 hok _ (List.getElem_mem _)
  rw [hj, hs]
  have hr : (s, (0 : Int)) = D.read j := by
    unfold Dk.read
    rw [if_neg (by simp [hdn]), if_neg (by omega)]
    simp only [Int.toNat_natCast, hs]
  have HRd := Lib.hid (fun m => read_calls bd D F (w.drewN m) (hd.ext (Ext.ofDrew w m) (fun _ _ _ => id)) hok j (by omega) (by omega) s 0 hr)
  have hnz : ¬ n = 0 := by omega
  have haw2 : IntKind.i64.wrap ((first : Int) + (k : Int) % (n : Int)) = (j : Int) := by
    rw [show (first : Int) + (k : Int) % (n : Int) = (j : Int) by omega]; exact IntWalk.i64_in _ (by omega)
  have hkw : IntKind.i64.wrap ((k : Int) + 1) = (k : Int) + 1 := IntWalk.i64_in _ (by omega)
  clear hr hd hs hj hmod
  go_enter Try.func48, Try.ntmps48
  go_wp2_with fail
  go_quiet ((go_at_call 31; exact quiet_w (HRd.out _)))
  go_wp2_with fail
  refine (rd_calls s _).mono ?_
  rintro e w1 ⟨rfl, hw1⟩
  obtain ⟨g, hg⟩ : ∃ g, (w.drewN nq).heap.size = g := ⟨_, rfl⟩
  have B1 : Blk w1 g [.string s, .bool false] 133 := by rw [hw1, ← hg]; exact Blk.new _ _ _
  have X1 : Ext NoB w w1 := by rw [hw1]; exact ((Ext.refl NoB w).drewN nq).alloc _
  have hgw : w.heap.size ≤ g := by rw [← hg]; exact Nat.le_refl _
  rw [hg]
  obtain ⟨x, hx⟩ : ∃ x, unle (s.data.toList.take 8) = x := ⟨_, rfl⟩
  have H8 : Calls Try.prog 67 #[.pointer (some ⟨g, 0, none⟩), .int .i64 8] w1 fun e w' => e = .returned (.int .u64 x) ∧ w' = w1.setCell ⟨g, 0, none⟩ (.string (s.extract 8 64)) := by
    have := rnum_calls g s 8 (by omega) (by omega) (by omega) (by omega) w1 (B1.cell rfl) (B1.cell rfl) (B1.fr 0)
    rw [hs64, hx] at this; exact this
  have B2 := B1.set 0 (.string (s.extract 8 64))
  have X2 : Ext NoB w (w1.setCell ⟨g, 0, none⟩ (.string (s.extract 8 64))) := X1.setCell _ (fun h => absurd h (by simp; omega))
  have e2 : (s.extract 8 64).size = 56 := by simp; omega
  obtain ⟨y, hy⟩ : ∃ y, unle ((s.data.toList.drop 8).take 2) = y := ⟨_, rfl⟩
  have hl2 : (s.extract 8 64).data.toList.take 2 = (s.data.toList.drop 8).take 2 := by
    rw [extract_list, List.take_take, Nat.min_eq_left (by omega)]
  have hex : (s.extract 8 64).extract 2 56 = s.extract 10 64 := by
    apply ByteArray.ext; apply Array.ext'
    rw [extract_list, extract_list, extract_list, List.drop_take, List.drop_drop, List.take_take]
    simp
  have H2 : ∀ W, Blk W g [.string (s.extract 8 64), .bool false] 133 → Calls Try.prog 67 #[.pointer (some ⟨g, 0, none⟩), .int .i64 2] W fun e w' => e = .returned (.int .u64 y) ∧ w' = W.setCell ⟨g, 0, none⟩ (.string (s.extract 10 64)) := by
    intro W hB
    have := rnum_calls g (s.extract 8 64) 2 (by omega) (by omega) (by omega) (by omega) W (hB.cell rfl) (hB.cell rfl) (hB.fr 0)
    rw [hl2, hy, e2, hex] at this
    exact this
  have HB2 := Lib.hid (H2 _ B2)
  have B3 := B2.set 0 (.string (s.extract 10 64))
  have X3 : Ext NoB w ((w1.setCell ⟨g, 0, none⟩ (.string (s.extract 8 64))).setCell ⟨g, 0, none⟩ (.string (s.extract 10 64))) := X2.setCell _ (fun h => absurd h (by simp; omega))
  obtain ⟨W3, hW3⟩ : ∃ W, (w1.setCell ⟨g, 0, none⟩ (.string (s.extract 8 64))).setCell ⟨g, 0, none⟩ (.string (s.extract 10 64)) = W := ⟨_, rfl⟩
  rw [hW3] at B3 X3 HB2
  have K3 := Lib.hid B3
  have KX := Lib.hid X3
  have KH8 := Lib.hid H8
  have hdec : dec k s = if x ≠ k + 1 ∨ 54 < y then none else some ((s.data.toList.drop 10).take y) := by unfold dec; rw [hx, hy]
  have HD := Lib.hid hdec
  clear H8 H2 B1 B2 B3 X1 X2 X3 hw1 hex hl2 hx hy hdec hW3 hg e2
  go_wp2_with fail
  refine KH8.out.mono ?_
  rintro e w2 ⟨rfl, rfl⟩
  go_wp2_with fail
  refine HB2.out.mono ?_
  rintro e w4 ⟨rfl, rfl⟩
  have KB := K3.out
  have q0 := KB.cell (i := 0) rfl
  have q1 := KB.cell (i := 1) rfl
  have f0 := KB.fr 0
  have hu : IntKind.u64.wrap ((k : Int) + 1) = (k : Int) + 1 := IntWalk.u64_in _ (by omega)
  by_cases h8 : x = k + 1
  · have hb8 : ((x : Int) != (k : Int) + 1) = false := by simp; omega
    by_cases h54 : 54 < y
    · have hb5 : decide ((54 : Int) < (y : Int)) = true := by simp; omega
      have hd : dec k s = none := by rw [HD.out, if_pos (.inr h54)]
      have hS := Lib.hid hd
      clear hd
      go_wp2_with fail
      go_ret3
      refine ⟨?_, KX.out⟩
      unfold decS; rw [hS.out]; rfl
    · have hb5 : decide ((54 : Int) < (y : Int)) = false := by simp; omega
      have hd : dec k s = some ((s.data.toList.drop 10).take y) := by rw [HD.out, if_neg (by omega)]
      have hS := Lib.hid hd
      clear hd
      have e3 : (s.extract 10 64).size = 54 := by simp; omega
      have HBy := Lib.hid (rbytes_calls g (s.extract 10 64) y (by omega) (by omega) w4 q0 q1 f0)
      have hout : (s.extract 10 64).extract 0 y = ⟨((s.data.toList.drop 10).take y).toArray⟩ := by
        apply ByteArray.ext; apply Array.ext'
        rw [extract_list, extract_list, List.drop_zero, List.take_take]
        simp; omega
      have HO := Lib.hid hout
      have hyw : IntKind.i64.wrap (y : Int) = (y : Int) := IntWalk.i64_in _ (by omega)
      have X4 := Lib.hid (KX.out.setCell (p := ⟨g, 0, none⟩) (.string ((s.extract 10 64).extract y 54)) (fun h => absurd h (by simp; omega)))
      clear hout
      go_wp2_with fail
      refine HBy.out.mono ?_
      rintro e w5 ⟨rfl, rfl⟩
      go_wp2_with fail
      go_ret3
      refine ⟨?_, X4.out⟩
      unfold decS; rw [hS.out, HO.out]; rfl
  · have hb8 : ((x : Int) != (k : Int) + 1) = true := by simp; omega
    have hd : dec k s = none := by rw [HD.out, if_pos (.inl h8)]
    have hS := Lib.hid hd
    clear hd
    clear h8
    go_wp2_with fail
    go_ret3
    refine ⟨?_, KX.out⟩
    unfold decS; rw [hS.out]; rfl
end Go.Proofs.Ytdhklomnaodcnaa
