/- The program's device: Crash: the walk. -/
import Derived.Test.YtdhklomnaodcnaaDk4
namespace Go.Proofs.Ytdhklomnaodcnaa
open Go.RowKit

theorem pick_bool (b : Bool) : (if b = true then b else false) = b := by cases b <;> rfl

set_option maxHeartbeats 2000000 in
set_option maxRecDepth 100000 in
theorem crash_calls (b : Nat) (D : Dk) (F : Nat → Prop) (w : World) (h : DiskAt w b D F) (hok : D.Ok) (v : Value) (ks : List Bool) (hk : KeepAt w v ks) (hks : ks.length ≤ 140737488355328) :
    Calls Try.prog 20 #[.pointer (some ⟨b, 0, none⟩), v] w fun e w' => ∃ b', e = .returned (.pointer (some ⟨b', 0, none⟩)) ∧ DiskAt w' b' (D.crash ks) (Fsh NoB w) ∧ Ext F w w' := by
  obtain ⟨vf, vs, vn, hb, h1, h2, h3, fb, f1, f2, f3, d⟩ := h
  have hsl := hok.soft
  have hlen := hok.len
  have hsf := hok.soft64
  have HSF := Lib.hid hsf
  clear hsf
  have c0 := hb.cell (i := 0) rfl
  have c1 := hb.cell (i := 1) rfl
  obtain ⟨bf, capf, hvf, _, _⟩ := h1.shape
  obtain ⟨bs, caps, hvs, _, _⟩ := h2.shape
  rw [hvf] at c0 h1 hb
  rw [hvs] at c1 h2 hb
  have H1 := Lib.hid h1
  have H2 := Lib.hid h2
  have HB := Lib.hid hb
  have hsz := hb.lt
  have HK := Lib.hid hk
  have hno : ∀ j, fp (Value.slice none 0 0) ≠ some j := by simp [fp]
  have HNO := Lib.hid hno
  -- the shape of the list of bools
  obtain ⟨kb, kcap, hkv⟩ : ∃ kb kcap, v = .slice kb ks.length kcap := by
    rcases hk with ⟨base, cap, rfl, rfl⟩ | ⟨bk, ok, cap, rfl, _⟩
    · exact ⟨_, _, rfl⟩
    · exact ⟨_, _, rfl⟩
  clear h1 h2 h3 hb f1 f2 f3 d hvf hvs hk hno
  subst hkv
  go_enter Try.func20, Try.ntmps20
  go_wp2_with (at_builtin; refine wpList_append_Own rfl _ _ 54 54 rfl 9 1 16 _ Try.underlying54 (.inl Try.underlying54) info9 rfl _ 0 [] rfl (Own.nil _ _ _) _ rfl D.firm.length (strs D.firm) H1.out.src (strs_length _) (strs_one _) (by simp only [maxLen]; omega) (by omega) ?_)
  intro v' w1 hO1 hE1 hF1
  have e1 : Ext NoB w w1 := (Ext.refl NoB w).trans hE1 (fun j _ hx => absurd hx (HNO.out j))
  have F1 : Hid (∀ j, fp v' = some j → w.heap.size ≤ j) := fun j hj => (hF1 j hj).elim (fun h => absurd h (HNO.out j)) id
  have c1' := (HB.out.ext e1 id).cell (i := 1) rfl
  obtain ⟨bv, cv, hvv, _, _⟩ := hO1.shape
  rw [hvv] at hO1 F1
  rw [hvv]
  clear hvv hE1 hF1
  rw [← D.crashK_zero ks] at hO1
  go_wp2_with fail
  go_loopw [20] (fun v20 wr => ∃ k : Nat, k ≤ D.soft.length ∧ v20 = .int .i64 k ∧ Own wr (.slice bv D.firm.length cv) 9 1 D.firm.length (strs (D.crashK ks k)) ∧ Ext NoB w wr) (fun v20 _ => D.soft.length - (intOf v20).toNat)
  case atStart => exact ⟨0, Nat.zero_le _, rfl, hO1, e1⟩
  case round =>
    obtain ⟨k, hk, rfl, hO, hE⟩ := hrel
    clear hO1 e1 c1' c0 c1
    have HO := Lib.hid hO
    have HE := Lib.hid hE
    clear hO hE
    by_cases hlt : k < D.soft.length
    · obtain ⟨hs64, hsn⟩ := HSF.out D.soft[k] (List.getElem_mem hlt)
      obtain ⟨gs, caps', curs, hvs2, _, _, _, _, _, _⟩ := H2.out.pos (by omega)
      cases hvs2
      obtain ⟨gn, capn, curn, hvn2, hfn, hbn, _, _, _, _⟩ := HO.out.pos (by omega)
      cases hvn2
      have H2' := Lib.hid (H2.out.ext HE.out (fun _ _ => id))
      have q1 := H2'.out.cell rfl (softCells_fst D.soft k hlt)
      have q2 := H2'.out.cell rfl (softCells_snd D.soft k hlt)
      rw [Nat.mul_comm] at q1 q2
      have hsn' : ((D.soft[k].1 : Nat) : Int) < D.firm.length := by omega
      have qf := HO.out.cell rfl (i := D.soft[k].1) (u := .string ((D.crashK ks k).getD D.soft[k].1 ⟨#[]⟩)) (by
        have : D.soft[k].1 < (D.crashK ks k).length := by rw [D.crashK_length]; exact hsn
        simp [strs, List.getD, this])
      have rf := HO.out.fr rfl (by omega) D.soft[k].1
      have hgn : gn < wr.heap.size := hbn.lt
      have hgs : gs < wr.heap.size := World.block_lt_of_cell? wr _ q1
      have KE1 := Lib.hid (HE.out.alloc (.cells #[.int .i64 D.soft[k].1, .string D.soft[k].2] 97))
      have KO1 := Lib.hid (HO.out.alloc (.cells #[.int .i64 D.soft[k].1, .string D.soft[k].2] 97))
      have KE2 : Hid (Ext NoB w ((wr.setCell ⟨gn, D.soft[k].1, none⟩ (.string D.soft[k].2)).alloc (.cells #[.int .i64 D.soft[k].1, .string D.soft[k].2] 97))) :=
        (HE.out.setCell _ (fun h => by have := F1.out gn hfn; simp at h; omega)).alloc _
      have KO2 := Lib.hid ((HO.out.set rfl (by omega : D.soft[k].1 < D.firm.length * 1) (.string D.soft[k].2)).alloc (.cells #[.int .i64 D.soft[k].1, .string D.soft[k].2] 97))
      clear hbn hfn hs64
      by_cases hlk : k < ks.length
      · rcases HK.out with ⟨base, cap, e0, e1⟩ | ⟨bk, ok, cap, e0, hbk, hck⟩
        · rw [e1] at hlk; simp at hlk
        · cases e0
          have qk0 := hck k ks[k] (by simp [hlk])
          have qk : wr.cell? ⟨bk, ok + k, none⟩ = some (.bool ks[k]) := by
            rw [← qk0]; exact World.cell?_of_block (a := ⟨bk, ok + k, none⟩) (HE.out.block bk hbk id)
          have hbk' : bk < wr.heap.size := World.block_lt_of_cell? wr _ qk
          have hlk' : (k : Int) < ks.length := by omega
          have hsucc := D.crashK_succ ks k hlt hlk
          clear qk0 hck
          cases hb : ks[k] with
          | true =>
            rw [hb] at qk hsucc
            rw [if_pos rfl] at hsucc
            have HS := Lib.hid hsucc
            have HBK := Lib.hid hb
            clear hsucc hb
            go_wp2_with fail
            go_roundw
            case rel => exact ⟨k + 1, by omega, by go_num, by rw [HS.out, strs, List.map_set]; exact KO2.out, KE2.out⟩
            case measure => simp [intOf]; omega
          | false =>
            rw [hb] at qk hsucc
            rw [if_neg (by simp)] at hsucc
            have HS := Lib.hid hsucc
            have HBK := Lib.hid hb
            clear hsucc hb
            go_wp2_with fail
            go_roundw
            case rel => exact ⟨k + 1, by omega, by go_num, by rw [HS.out]; exact KO1.out, KE1.out⟩
            case measure => simp [intOf]; omega
      · have HS := Lib.hid (D.crashK_stay ks k (by omega))
        have hlk' : ¬ (k : Int) < ks.length := by omega
        go_wp2_with fail
        go_roundw
        case rel => exact ⟨k + 1, by omega, by go_num, by rw [HS.out]; exact KO1.out, KE1.out⟩
        case measure => simp [intOf]; omega
    · have : k = D.soft.length := by omega
      subst this
      have HB' := Lib.hid (HB.out.ext HE.out id)
      have c4 := HB'.out.cell (i := 4) rfl
      have r4 := HB'.out.fr 4
      have hko := D.crashK_over ks D.soft.length (.inr (Nat.le_refl _))
      rw [hko] at HO
      have hfl : (D.crash ks).firm.length = D.firm.length := by rw [← hko]; exact D.crashK_length _ _
      have hneb : ∀ j, fp (.slice bv D.firm.length cv) = some j → j ≠ b := fun j hj e => by have := F1.out j hj; omega
      have HO' : Hid (Own (wr.setCell ⟨b, 4, none⟩ (.bool true)) (.slice bv D.firm.length cv) 9 1 D.firm.length (strs (D.crash ks).firm)) := HO.out.far _ (fun e => hneb _ e rfl)
      have HL := Lib.hid hfl
      clear hko hfl hneb
      go_wp2_with (at_builtin; refine wpList_append_Own rfl _ _ 54 54 rfl 9 1 16 _ Try.underlying54 (.inl Try.underlying54) info9 rfl _ 0 [] rfl (Own.nil _ _ _) _ rfl D.firm.length (strs (D.crash ks).firm) HO'.out.src (by rw [strs_length, HL.out]) (strs_one _) (by simp only [maxLen]; omega) (by omega) ?_)
      intro v2 w2 hO2 hE2 hF2
      have E2 : Ext F w w2 := (HE.out.mono (fun _ _ h => h.elim)).setCell (p := ⟨b, 4, none⟩) (.bool true) (fun _ => fb) |>.trans hE2 (fun j _ hx => absurd hx (HNO.out j))
      have FR : ∀ j, fp v2 = some j → wr.heap.size ≤ j := fun j hj => (hF2 j hj).elim (fun h => absurd h (HNO.out j)) (fun h => by simpa using h)
      have hw1 : w.heap.size ≤ wr.heap.size := HE.out.size
      have hw2 : wr.heap.size ≤ w2.heap.size := by have := hE2.size; simpa using this
      have hOn : Own w2 (.slice bv D.firm.length cv) 9 1 D.firm.length (strs (D.crash ks).firm) := HO'.out.ext hE2 (fun j _ hx => HNO.out j hx)
      obtain ⟨b2, c2, hvv, _, _⟩ := hO2.shape
      rw [hvv] at hO2 FR
      rw [hvv]
      clear hvv
      have KEY : Hid (DiskAt (w2.alloc (.cells #[.slice bv D.firm.length cv, .slice none 0 0, .slice b2 D.firm.length c2, .int .i64 (-1), .bool false] 75)) w2.heap.size (D.crash ks) (Fsh NoB w)) := by
        refine ⟨.slice bv D.firm.length cv, .slice none 0 0, .slice b2 D.firm.length c2, Blk.new w2 [.slice bv D.firm.length cv, .slice none 0 0, .slice b2 D.firm.length c2, .int .i64 (-1), .bool false] 75, ?_, Own.nil _ _ _, ?_, .inr (by omega), fun j hj => ?_, fun j hj => absurd hj (HNO.out j), fun j hj => ?_, fun j _ => HNO.out j, fun j hj e => ?_, fun j hj => absurd hj (HNO.out j)⟩
        · rw [HL.out]; exact hOn.alloc _
        · rw [HL.out]; exact hO2.alloc _
        · have := F1.out j hj; have := hOn.lt hj; exact ⟨.inr (by omega), by omega⟩
        · have := FR j hj; have := hO2.lt hj; exact ⟨.inr (by omega), by omega⟩
        · have := FR j e; have := HO.out.lt hj; omega
      have KE := Lib.hid (E2.alloc (.cells #[.slice bv D.firm.length cv, .slice none 0 0, .slice b2 D.firm.length c2, .int .i64 (-1), .bool false] 75))
      clear hO2 hE2 hF2 E2 FR hOn
      go_wp2_with fail
      go_ret
      exact ⟨_, rfl, KEY.out, KE.out⟩
end Go.Proofs.Ytdhklomnaodcnaa
