/- The reference's device: Crash: the walk. -/
import Derived.Test.YtdhklomnaodcnaaRd3
import Derived.StillTailTactics
namespace Go.Proofs.Ytdhklomnaodcnaa
open Go.RowKit

set_option maxHeartbeats 2000000 in
set_option maxRecDepth 100000 in
theorem rcrash_calls (b : Nat) (D : Dk) (F : Nat → Prop) (w : World) (h : RDiskAt w b D F) (hok : D.Ok) (v : Value) (ks : List Bool) (hk : KeepAt w v ks) (hks : ks.length ≤ 140737488355328) :
    Calls Try.prog 21 #[.pointer (some ⟨b, 0, none⟩), v] w fun e w' => ∃ b', e = .returned (.pointer (some ⟨b', 0, none⟩)) ∧ RDiskAt w' b' (D.crash ks) (Fsh NoB w) ∧ Ext F w w' := by
  obtain ⟨vf, vs, hb, h1, h2, fb, f1, f2, d⟩ := h
  have hsl := hok.soft
  have hlen := hok.len
  have hsf := hok.soft64
  have HSF := Lib.hid hsf
  clear hsf
  have c0 := hb.cell (i := 0) rfl
  obtain ⟨bf, capf, hvf, _, _⟩ := h1.shape
  obtain ⟨bs, caps, hvs, _, _⟩ := h2.shape
  rw [hvf] at c0 h1 hb
  rw [hvs] at h2 hb
  have H1 := Lib.hid h1
  have H2 := Lib.hid h2
  have HB := Lib.hid hb
  have hsz := hb.lt
  have HK := Lib.hid hk
  have hno : ∀ j, fp (Value.slice none 0 0) ≠ some j := by simp [fp]
  have HNO := Lib.hid hno
  obtain ⟨kb, kcap, hkv⟩ : ∃ kb kcap, v = .slice kb ks.length kcap := by
    rcases hk with ⟨base, cap, rfl, rfl⟩ | ⟨bk, ok, cap, rfl, _⟩
    · exact ⟨_, _, rfl⟩
    · exact ⟨_, _, rfl⟩
  clear h1 h2 hb f1 f2 d hvf hvs hk hno
  subst hkv
  go_enter Try.func21, Try.ntmps21
  go_wp2_with (at_builtin; refine wpList_append_Own rfl _ _ 54 54 rfl 9 1 16 _ Try.underlying54 (.inl Try.underlying54) info9 rfl _ 0 [] rfl (Own.nil _ _ _) _ rfl D.firm.length (strs D.firm) H1.out.src (strs_length _) (strs_one _) (by simp only [maxLen]; omega) (by omega) ?_)
  intro v' w1 hO1 hE1 hF1
  have e1 : Ext NoB w w1 := (Ext.refl NoB w).trans hE1 (fun j _ hx => absurd hx (HNO.out j))
  have F1 : Hid (∀ j, fp v' = some j → w.heap.size ≤ j ∧ j < w1.heap.size) := fun j hj => ⟨(hF1 j hj).elim (fun h => absurd h (HNO.out j)) id, hO1.lt hj⟩
  obtain ⟨bv, cv, hvv, _, _⟩ := hO1.shape
  rw [hvv] at hO1 F1
  rw [hvv]
  clear hvv hE1 hF1
  rw [← D.crashK_zero ks] at hO1
  have hw1 : w.heap.size ≤ w1.heap.size := e1.size
  go_wp2_with fail
  go_loopw [6] (fun v6 wr => ∃ k : Nat, k ≤ D.soft.length ∧ k ≤ ks.length ∧ v6 = .int .i64 k ∧ Blk wr w1.heap.size [.slice bv D.firm.length cv, .slice none 0 0, .int .i64 (-1), .bool false] 57 ∧ Own wr (.slice bv D.firm.length cv) 9 1 D.firm.length (strs (D.crashK ks k)) ∧ Ext NoB w wr) (fun v6 _ => D.soft.length - (intOf v6).toNat)
  case atStart => exact ⟨0, Nat.zero_le _, Nat.zero_le _, rfl, Blk.new w1 [.slice bv D.firm.length cv, .slice none 0 0, .int .i64 (-1), .bool false] 57, hO1.alloc _, e1.alloc _⟩
  case round =>
    obtain ⟨k, hk, hkk, rfl, hN, hO, hE⟩ := hrel
    clear hO1 e1 c0
    have HO := Lib.hid hO
    have HE := Lib.hid hE
    have HN := Lib.hid hN
    have n0 := hN.cell (i := 0) rfl
    have hHB := Lib.hid (HB.out.ext HE.out id)
    have b1 := hHB.out.cell (i := 1) rfl
    have FIN : Hid ((ks.length ≤ k ∨ D.soft.length ≤ k) → RDiskAt (wr.setCell ⟨b, 3, none⟩ (.bool true)) w1.heap.size (D.crash ks) (Fsh NoB w)) := by
      intro hend
      have hko := D.crashK_over ks k hend
      have hfl : (D.crash ks).firm.length = D.firm.length := by rw [← hko]; exact D.crashK_length _ _
      refine ⟨.slice bv D.firm.length cv, .slice none 0 0, hN.far _ (fun e => by simp at e; omega), ?_, Own.nil _ _ _, .inr hw1, fun j hj => ?_, fun j hj => absurd hj (HNO.out j), fun j _ => HNO.out j⟩
      · rw [hfl, ← hko]
        exact hO.far _ (fun e => by have := F1.out _ e; simp at this; omega)
      · have := F1.out j hj; exact ⟨.inr this.1, by omega⟩
    have KE3 : Hid (Ext F w (wr.setCell ⟨b, 3, none⟩ (.bool true))) := (hE.mono (fun _ _ h => h.elim)).setCell _ (fun _ => fb)
    have b3 := hHB.out.cell (i := 3) rfl
    have s3 := hHB.out.fr 3
    clear hO hE hN
    by_cases hlt : k < D.soft.length
    · obtain ⟨hs64, hsn⟩ := HSF.out D.soft[k] (List.getElem_mem hlt)
      obtain ⟨gs, caps', curs, hvs2, _, _, _, _, _, _⟩ := H2.out.pos (by omega)
      cases hvs2
      by_cases hlk : k < ks.length
      · obtain ⟨gn, capn, curn, hvn2, hfn, hbn, _, _, _, _⟩ := HO.out.pos (by omega)
        cases hvn2
        have H2' := Lib.hid (H2.out.ext HE.out (fun _ _ => id))
        have q1 := H2'.out.cell rfl (softCells_fst D.soft k hlt)
        have q2 := H2'.out.cell rfl (softCells_snd D.soft k hlt)
        rw [Nat.mul_comm] at q1 q2
        have hsn' : ((D.soft[k].1 : Nat) : Int) < D.firm.length := by omega
        have qf := HO.out.cell rfl (i := D.soft[k].1) (u := .string ((D.crashK ks k).getD D.soft[k].1 ⟨#[]⟩)) (by
          have : D.soft[k].1 < (D.crashK ks k).length := by rw [D.crashK_length]; exact hsn
          simp [strs, List.getD, this])
        have rf := HO.out.fr rfl (by omega) D.soft[k].1
        have KE2 : Hid (Ext NoB w (wr.setCell ⟨gn, D.soft[k].1, none⟩ (.string D.soft[k].2))) :=
          HE.out.setCell _ (fun h => by have := F1.out gn hfn; simp at h; omega)
        have KO2 := Lib.hid (HO.out.set rfl (by omega : D.soft[k].1 < D.firm.length * 1) (.string D.soft[k].2))
        have KN2 := Lib.hid (HN.out.far (p := ⟨gn, D.soft[k].1, none⟩) (.string D.soft[k].2) (fun e => by have := F1.out gn hfn; simp at e; omega))
        clear hbn hfn hs64
        rcases HK.out with ⟨base, cap, e0, e1⟩ | ⟨bk, ok, cap, e0, hbk, hck⟩
        · rw [e1] at hlk; simp at hlk
        · cases e0
          have qk0 := hck k ks[k] (by simp [hlk])
          have qk : wr.cell? ⟨bk, ok + k, none⟩ = some (.bool ks[k]) := by
            rw [← qk0]; exact World.cell?_of_block (a := ⟨bk, ok + k, none⟩) (HE.out.block bk hbk id)
          have hlk' : (k : Int) < ks.length := by omega
          have hsucc := D.crashK_succ ks k hlt hlk
          clear qk0 hck
          cases hb : ks[k] with
          | true =>
            rw [hb] at qk hsucc
            rw [if_pos rfl] at hsucc
            have HS := Lib.hid hsucc
            have HBK := Lib.hid hb
            clear hsucc hb
            go_wp2_with fail
            go_still_tail 21, (by kernel_rfl)
            change wpList _ _ _ _ _ wr.drew
            go_wp2_with fail
            exact ⟨⟨k + 1, by omega, by omega, by go_num, KN2.out.drew, by rw [HS.out, strs, List.map_set]; exact KO2.out.drew, KE2.out.drew⟩, by simp [intOf]; omega⟩
          | false =>
            rw [hb] at qk hsucc
            rw [if_neg (by simp)] at hsucc
            have HS := Lib.hid hsucc
            have HBK := Lib.hid hb
            clear hsucc hb
            go_wp2_with fail
            go_roundw
            case rel => exact ⟨k + 1, by omega, by omega, by go_num, HN.out, by rw [HS.out]; exact HO.out, HE.out⟩
            case measure => simp [intOf]; omega
      · have hke : ¬ (k : Int) < ks.length := by omega
        go_wp2_with fail
        go_ret
        exact ⟨_, rfl, FIN.out (.inl (by omega)), KE3.out⟩
    · have hke : ¬ (k : Int) < D.soft.length := by omega
      go_wp2_with fail
      go_ret
      exact ⟨_, rfl, FIN.out (.inr (by omega)), KE3.out⟩
end Go.Proofs.Ytdhklomnaodcnaa
