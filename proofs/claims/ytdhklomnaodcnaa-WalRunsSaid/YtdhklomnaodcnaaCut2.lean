/- wal's Cut, at the end. -/
import Derived.Test.YtdhklomnaodcnaaCut
namespace Go.Proofs.Ytdhklomnaodcnaa
open Go.RowKit

set_option maxHeartbeats 8000000 in
set_option maxRecDepth 100000 in
theorem cut_fin (b bd : Nat) (L : Lg) (F : Nat → Prop) (w : World) (h : LogAt w b L bd F) (hok : L.Ok) (a k : Nat) (hk : k = L.list.length) (ha : a = L.fin) (haf0 : a ≤ L.firm) :
    Calls Try.prog 17 #[.pointer (some ⟨b, 0, none⟩), .int .i64 a] w fun e w' => e = .returned (.int .i64 0) ∧ LogAt w' b (L.cutAt a k) bd (Fsh F w) ∧ Ext F w w' := by
  have hge : L.start ≤ a ∧ a ≤ L.fin := Lg.CutOk.ge hok (k := k) ⟨haf0, .inl ⟨ha, hk⟩⟩
  have hbig := hok.big
  have hll := hok.list_length
  have hbc := hok.bcap
  have hn2 := hok.n2
  have hbase := Lg.base_le hok
  have hbl : L.base + L.buf.length = L.fin := hok.blen
  have HBL := Lib.hid hbl
  have hbb : L.base ≤ a / 54 * 54 := by show L.start / 54 * 54 ≤ _; omega
  have hba : a / 54 * 54 ≤ a := by omega
  have haf : (a : Int) ≤ L.firm := by omega
  have hafn : decide ((L.firm : Int) < (a : Int)) = false := by simp; omega
  have HCH := Lib.hid hok.chain
  have hlb : L.buf.length ≤ 221184 := by omega
  clear hbl
  -- what is left of the bytes
  obtain ⟨m, hm⟩ : ∃ m, a / 54 * 54 - L.base = m := ⟨_, rfl⟩
  have hmi : (a : Int) / 54 * 54 - (L.base : Int) = (m : Int) := by omega
  have hmw : IntKind.i64.wrap ((a : Int) / 54 * 54 - (L.base : Int)) = (m : Int) := by rw [hmi]; exact IntWalk.i64_in _ (by omega)
  have hml : m ≤ L.buf.length := by have := HBL.out; omega
  have HM := Lib.hid hm
  have HMI := Lib.hid hmi
  clear hm hmi
  have hmin : ∀ w, (Builtin.min_ #[3, 3] 3 #[.int .i64 (m : Int), .int .i64 (L.buf.length : Int)]).run Try.prog w = .ok (.int .i64 (m : Int)) w := fun w => by
    have : ¬ ((L.buf.length : Int) < (m : Int)) := by omega
    simp [Builtin.min_, Builtin.min2, this]
  have HS := Lib.hid (find_calls b bd L F w h hok a (by omega) (by omega))
  have HH := Lib.hid h
  have hkl : k ≤ L.list.length := by omega
  clear h
  have HA0 := Lib.hid ha
  have HK0 := Lib.hid hk
  clear ha hk
  go_enter Try.func17, Try.ntmps17
  go_wp2_with fail
  refine HS.out.mono ?_
  rintro e w2 ⟨⟨k', f, rfl, hf1, hf2⟩, hE⟩
  have ha := HA0.out
  have hk := HK0.out
  have hfk : f = false := by
    cases f with
    | false => rfl
    | true =>
      obtain ⟨hk', ht⟩ := hf1 rfl
      have := HCH.out.lt k' hk'
      omega
  have hne : ((a : Int) == (L.fin : Int)) = true := by simp; omega
  have hne2 : ((a : Int) != (L.fin : Int)) = false := by simp; omega
  obtain rfl := hfk
  clear hf1 hf2 ha hk
  have X2 : Hid (Ext F w w2) := hE.no
  obtain ⟨vb, vl, hb, k1, k2, fb, f1, f2, d⟩ := (HH.out.ext hE (fun _ _ _ => id)).mono (F' := Fsh F w) (fun _ _ h => .inl h)
  clear hE
  have c4 := hb.cell (i := 4) rfl
  have c5 := hb.cell (i := 5) rfl
  have c8 := hb.cell (i := 8) rfl
  obtain ⟨bl, cl, hvl, hcl1, hcl2⟩ := k2.shape
  rw [hvl] at c8 k2 f2 d hb
  have K1 := Lib.hid k1
  have K2 := Lib.hid k2
  have KB := Lib.hid hb
  have G1 := Lib.hid f1
  have G2 := Lib.hid f2
  have GD := Lib.hid d
  clear k1 k2 hb f1 f2 d hvl
  have hki : (k : Int) ≤ L.list.length := by omega
  have hkk : (L.list.length : Int) = (k : Int) := by have := HK0.out; omega
  go_upto_region 8 with (fail)
  go_cut [] (fun wc => ∃ b3 c3, Blk wc b [.pointer (some ⟨bd, 0, none⟩), .int .i64 L.first, .int .i64 L.n, .int .i64 L.start, .int .i64 L.fin, .int .i64 L.firm, .int .i64 L.base, vb, .slice b3 (L.list.length - k) c3] 83 ∧ Own wc (.slice b3 (L.list.length - k) c3) 86 2 (L.list.length - k) (softCells (L.list.drop k)) ∧ Hid (∀ j, fp (.slice b3 (L.list.length - k) c3) = some j → w2.heap.size ≤ j) ∧ Own wc vb 5 1 L.buf.length (bytesV L.buf) ∧ Ext F w wc ∧ w2.heap.size ≤ wc.heap.size)
  case first =>
    by_cases hcl : cl = k
    · subst hcl
      have HW : Hid (Win w2 (.slice bl 0 0) 2 (L.list.length - cl) (softCells (L.list.drop cl))) := by
        refine .inl ⟨bl, 0, rfl, by have := HK0.out; omega, ?_⟩
        rw [List.drop_eq_nil_of_le (by have := HK0.out; omega)]; rfl
      have hz : L.list.length - cl = 0 := by have := HK0.out; omega
      rw [hz] at HW
      have HZ := Lib.hid hz
      clear hz
      go_wp2_with fail
      refine (clone_e_calls _ _ _ _ HW.out (by omega) (softCells_one _)).mono ?_
      rintro e w3 ⟨v3, rfl, hO3, hE3, hF3⟩
      obtain ⟨b3, c3, hv3, _, _⟩ := hO3.shape
      rw [hv3] at hO3 hF3
      rw [hv3]
      clear hv3
      have B3 := KB.out.ext hE3 id
      have q8 := B3.cell (i := 8) rfl
      have r8 := B3.fr 8
      have z2 := X2.out.size
      have z3 := hE3.size
      have hbs := KB.out.lt
      have B5 := Lib.hid (B3.set 8 (.slice b3 (0) c3))
      have O5 := Lib.hid (hO3.far (p := ⟨b, 8, none⟩) (.slice b3 (0) c3) (fun e => by have := hF3 _ e; simp at this; omega))
      have P5 := Lib.hid ((K1.out.ext hE3 (fun _ _ => id)).far (p := ⟨b, 8, none⟩) (.slice b3 (0) c3) (fun e => (G1.out _ e).2 rfl))
      have X5 := Lib.hid ((X2.out.trans hE3 (fun _ _ h => h.elim)).setCell (p := ⟨b, 8, none⟩) (.slice b3 (0) c3) (fun h => fb.elim id (fun h' => absurd h' (by simp at h; omega))))
      have F5 : Hid (∀ j, fp (.slice b3 (0) c3) = some j → w2.heap.size ≤ j) := hF3
      clear hO3 hE3 hF3 B3
      go_wp2_with fail
      go_meet
      case rel => rw [HZ.out]; exact ⟨_, _, B5.out, O5.out, F5, P5.out, X5.out, by simp; exact z3⟩
    · obtain ⟨gl, hgl⟩ : ∃ g, bl = some ⟨g, 0, none⟩ := by
        rcases K2.out.2 with ⟨base, e, h0⟩ | ⟨g, cap, cur, e, _⟩
        · exfalso; simp at e; have := HK0.out; omega
        · cases e; exact ⟨g, rfl⟩
      subst hgl
      have HW : Hid (Win w2 (.slice (some ⟨gl, k * 2, none⟩) (L.list.length - k) (cl - k)) 2 (L.list.length - k) (softCells (L.list.drop k))) := by
        have := K2.out.sub (i := k) (by omega)
        rw [softCells_drop] at this
        exact this
      go_wp2_with fail
      refine (clone_e_calls _ _ _ _ HW.out (by omega) (softCells_one _)).mono ?_
      rintro e w3 ⟨v3, rfl, hO3, hE3, hF3⟩
      obtain ⟨b3, c3, hv3, _, _⟩ := hO3.shape
      rw [hv3] at hO3 hF3
      rw [hv3]
      clear hv3
      have B3 := KB.out.ext hE3 id
      have q8 := B3.cell (i := 8) rfl
      have r8 := B3.fr 8
      have z2 := X2.out.size
      have z3 := hE3.size
      have hbs := KB.out.lt
      have B5 := Lib.hid (B3.set 8 (.slice b3 (L.list.length - k) c3))
      have O5 := Lib.hid (hO3.far (p := ⟨b, 8, none⟩) (.slice b3 (L.list.length - k) c3) (fun e => by have := hF3 _ e; simp at this; omega))
      have P5 := Lib.hid ((K1.out.ext hE3 (fun _ _ => id)).far (p := ⟨b, 8, none⟩) (.slice b3 (L.list.length - k) c3) (fun e => (G1.out _ e).2 rfl))
      have X5 := Lib.hid ((X2.out.trans hE3 (fun _ _ h => h.elim)).setCell (p := ⟨b, 8, none⟩) (.slice b3 (L.list.length - k) c3) (fun h => fb.elim id (fun h' => absurd h' (by simp at h; omega))))
      have F5 : Hid (∀ j, fp (.slice b3 (L.list.length - k) c3) = some j → w2.heap.size ≤ j) := hF3
      clear hO3 hE3 hF3 B3
      go_wp2_with fail
      go_meet
      case rel => exact ⟨_, _, B5.out, O5.out, F5, P5.out, X5.out, by simp; exact z3⟩
  case rest =>
  obtain ⟨b3, c3, hB, O5, F5, P5, X5, hW5s⟩ := hcut
  have q3 := hB.cell (i := 3) rfl
  have r3 := hB.fr 3
  have B5 := hB.set 3 (.int .i64 a)
  obtain ⟨W5, hW5⟩ : ∃ W, wc.setCell ⟨b, 3, none⟩ (.int .i64 a) = W := ⟨_, rfl⟩
  rw [hW5] at B5
  have hbs := KB.out.lt
  have z2 := X2.out.size
  have O5 : Own W5 (.slice b3 (L.list.length - k) c3) 86 2 (L.list.length - k) (softCells (L.list.drop k)) := by
    rw [← hW5]
    exact O5.far _ (fun e => by have := F5.out _ e; simp at this; omega)
  have P5 : Own W5 vb 5 1 L.buf.length (bytesV L.buf) := by
    rw [← hW5]
    exact P5.far _ (fun e => (G1.out _ e).2 rfl)
  have X5 : Hid (Ext F w W5) := by
    rw [← hW5]
    exact X5.setCell _ (fun h => fb.elim id (fun h' => absurd h' (by simp at h; omega)))
  have hW5s : w2.heap.size ≤ W5.heap.size := by rw [← hW5]; simp; exact hW5s
  obtain ⟨bb, cb, hvb, hcb1, hcb2⟩ := P5.shape
  rw [hvb] at P5 G1 B5
  have s7 := B5.cell (i := 7) rfl
  have s6 := B5.cell (i := 6) rfl
  have KB5 := Lib.hid B5
  have KO5 := Lib.hid O5
  have KP5 := Lib.hid P5
  clear hB B5 O5 P5 X2 K1 K2 KB GD hvb
  go_upto_region 11 with (fail)
  go_cut [] (fun wc => ∃ v7, Blk wc b [.pointer (some ⟨bd, 0, none⟩), .int .i64 L.first, .int .i64 L.n, .int .i64 a, .int .i64 L.fin, .int .i64 L.firm, .int .i64 L.base, v7, .slice b3 (L.list.length - k) c3] 83 ∧ Own wc v7 5 1 (L.buf.length - m) (bytesV (L.buf.drop m)) ∧ Own wc (.slice b3 (L.list.length - k) c3) 86 2 (L.list.length - k) (softCells (L.list.drop k)) ∧ Hid (∀ j, fp v7 = some j → W5.heap.size ≤ j) ∧ Ext F w wc)
  case first =>
    have hmli : (m : Int) ≤ L.buf.length := by omega
    by_cases hcm : cb = m
    · have hm2 : L.buf.length = m := by omega
      subst hcm
      have HW : Hid (Win W5.drew (.slice bb 0 0) 1 (L.buf.length - cb) (bytesV (L.buf.drop cb))) := by
        refine .inl ⟨bb, 0, rfl, by omega, ?_⟩
        rw [List.drop_eq_nil_of_le (by omega)]; rfl
      have HM2 := Lib.hid hm2
      rw [hm2] at s7 hmin
      have hsub : L.buf.length - cb = 0 := by omega
      rw [hsub] at HW
      refine wp_region_any (by kernel_rfl) ?_
      change wpAny _ _ _ _ _ _ _ (World.drew _)
      refine wpAny_stray 0 (v := ?_) rfl (by kernel_rfl) (by kernel_rfl) (by kernel_rfl) (fun _ _ _ h => h) (Or.inl ⟨by rfl, ?_⟩) ?_
      rotate_left
      · intro w; go_simp; with_reducible rfl
      go_big_quiet_step (fail)
      refine wpQuiet_nil ?_
      refine wpAny_head [1, 2, 3, 4, 5, 6, 7, 8, 9, 10, 11, 12, 13, 14, 15, 16, 17] 4 (fun wc => wc = W5.drew) (by repeat (first | exact .nil | apply Picks.cons rfl)) (by kernel_rfl) (by kernel_rfl) rfl ?_
      repeat (go_big_quiet_step (fail))
      refine wpQuiet_nil ?_
      rintro w' rfl
      refine wpAny_seq [18, 19, 20, 21] (by repeat (first | exact .nil | apply Picks.cons rfl)) (by kernel_rfl) (by kernel_rfl) ?_
      go_wp2_with fail
      refine (clone_b_calls _ _ _ _ HW.out (by omega) (bytesV_one _)).mono ?_
      rintro e w6 ⟨v6, rfl, hO6, hE6, hF6⟩
      obtain ⟨b6, c6, hv6, _, _⟩ := hO6.shape
      rw [hv6] at hO6 hF6
      rw [hv6]
      clear hv6
      have e6 : Ext NoB W5 w6 := (Ext.refl NoB W5).drew.trans hE6 (fun _ _ h => h)
      have q7 := (KB5.out.ext e6 id).cell (i := 7) rfl
      have r7 := (KB5.out.ext e6 id).fr 7
      have KB6 := Lib.hid ((KB5.out.ext e6 id).set 7 (.slice b6 0 c6))
      have zlt := KB5.out.lt
      have KP6 : Hid (Own (w6.setCell ⟨b, 7, none⟩ (.slice b6 0 c6)) (.slice b6 0 c6) 5 1 (L.buf.length - cb) (bytesV (L.buf.drop cb))) := by
        rw [hsub]
        exact hO6.far _ (fun e => by have := hF6 _ e; simp at this; omega)
      have KO6 : Hid (Own (w6.setCell ⟨b, 7, none⟩ (.slice b6 0 c6)) (.slice b3 (L.list.length - k) c3) 86 2 (L.list.length - k) (softCells (L.list.drop k))) :=
        (KO5.out.ext e6 (fun _ _ => id)).far _ (fun e => by have := F5.out _ e; simp at this; omega)
      have X6 : Hid (Ext F w (w6.setCell ⟨b, 7, none⟩ (.slice b6 0 c6))) :=
        (X5.out.trans e6 (fun _ _ h => h.elim)).setCell _ (fun h => fb.elim id (fun h' => absurd h' (by simp at h; omega)))
      have F6 : Hid (∀ j, fp (.slice b6 0 c6) = some j → W5.heap.size ≤ j) := hF6
      clear hO6 hE6 hF6 e6
      go_wp2_with fail
      go_meet
      case rel => exact ⟨_, KB6.out, KP6.out, KO6.out, F6, X6.out⟩
    · have HW : Hid (∃ v, (∀ g, bb = some ⟨g, 0, none⟩ → v = .slice (some ⟨g, m, none⟩) (L.buf.length - m) (cb - m)) ∧ Win W5.drew v 1 (L.buf.length - m) (bytesV (L.buf.drop m))) := by
        rcases KP5.out.2 with ⟨base, e, h0⟩ | ⟨g, cap, cur, e, _⟩
        · exfalso; simp at e; omega
        · cases e
          have := (KP5.out.drew.sub (i := m) hml)
          rw [Nat.mul_one] at this
          refine ⟨_, fun g hg => ?_, by simpa [bytesV] using this⟩
          cases hg; rfl
      obtain ⟨gb, hgb⟩ : ∃ g, bb = some ⟨g, 0, none⟩ := by
        rcases KP5.out.2 with ⟨base, e, h0⟩ | ⟨g, cap, cur, e, _⟩
        · exfalso; simp at e; omega
        · cases e; exact ⟨g, rfl⟩
      obtain ⟨v, hv, hW⟩ := HW.out
      have hv := hv gb hgb
      subst hv
      have HW := Lib.hid hW
      rw [hgb] at s7
      have HGB := Lib.hid hgb
      clear hW hgb
      refine wp_region_any (by kernel_rfl) ?_
      change wpAny _ _ _ _ _ _ _ (World.drew _)
      refine wpAny_stray 0 (v := ?_) rfl (by kernel_rfl) (by kernel_rfl) (by kernel_rfl) (fun _ _ _ h => h) (Or.inl ⟨by rfl, ?_⟩) ?_
      rotate_left
      · intro w; go_simp; with_reducible rfl
      go_big_quiet_step (fail)
      refine wpQuiet_nil ?_
      refine wpAny_head [1, 2, 3, 4, 5, 6, 7, 8, 9, 10, 11, 12, 13, 14, 15, 16, 17] 4 (fun wc => wc = W5.drew) (by repeat (first | exact .nil | apply Picks.cons rfl)) (by kernel_rfl) (by kernel_rfl) rfl ?_
      repeat (go_big_quiet_step (fail))
      refine wpQuiet_nil ?_
      rintro w' rfl
      refine wpAny_seq [18, 19, 20, 21] (by repeat (first | exact .nil | apply Picks.cons rfl)) (by kernel_rfl) (by kernel_rfl) ?_
      go_wp2_with fail
      refine (clone_b_calls _ _ _ _ HW.out (by omega) (bytesV_one _)).mono ?_
      rintro e w6 ⟨v6, rfl, hO6, hE6, hF6⟩
      obtain ⟨b6, c6, hv6, _, _⟩ := hO6.shape
      rw [hv6] at hO6 hF6
      rw [hv6]
      clear hv6
      have e6 : Ext NoB W5 w6 := (Ext.refl NoB W5).drew.trans hE6 (fun _ _ h => h)
      have q7 := (KB5.out.ext e6 id).cell (i := 7) rfl
      have r7 := (KB5.out.ext e6 id).fr 7
      have KB6 := Lib.hid ((KB5.out.ext e6 id).set 7 (.slice b6 (L.buf.length - m) c6))
      have zlt := KB5.out.lt
      have KP6 : Hid (Own (w6.setCell ⟨b, 7, none⟩ (.slice b6 (L.buf.length - m) c6)) (.slice b6 (L.buf.length - m) c6) 5 1 (L.buf.length - m) (bytesV (L.buf.drop m))) :=
        hO6.far _ (fun e => by have := hF6 _ e; simp at this; omega)
      have KO6 : Hid (Own (w6.setCell ⟨b, 7, none⟩ (.slice b6 (L.buf.length - m) c6)) (.slice b3 (L.list.length - k) c3) 86 2 (L.list.length - k) (softCells (L.list.drop k))) :=
        (KO5.out.ext e6 (fun _ _ => id)).far _ (fun e => by have := F5.out _ e; simp at this; omega)
      have X6 : Hid (Ext F w (w6.setCell ⟨b, 7, none⟩ (.slice b6 (L.buf.length - m) c6))) :=
        (X5.out.trans e6 (fun _ _ h => h.elim)).setCell _ (fun h => fb.elim id (fun h' => absurd h' (by simp at h; omega)))
      have F6 : Hid (∀ j, fp (.slice b6 (L.buf.length - m) c6) = some j → W5.heap.size ≤ j) := hF6
      clear hO6 hE6 hF6 e6
      go_wp2_with fail
      go_meet
      case rel => exact ⟨_, KB6.out, KP6.out, KO6.out, F6, X6.out⟩
  case rest =>
    obtain ⟨v7, hB, hP, hO, hF7, hX⟩ := hcut
    have q6 := hB.cell (i := 6) rfl
    have r6 := hB.fr 6
    have zlt := KB5.out.lt
    have ebase : ((a / 54 * 54 : Nat) : Int) = (a : Int) / 54 * 54 := by omega
    have KEY : Hid (LogAt (wc.setCell ⟨b, 6, none⟩ (.int .i64 ((a : Int) / 54 * 54))) b (L.cutAt a k) bd (Fsh F w)) := by
      have hB2 := hB.set 6 (.int .i64 ((a / 54 * 54 : Nat) : Int))
      rw [ebase] at hB2
      have hne7 : ∀ j, fp v7 = some j → j ≠ b := fun j hj e => by have := hF7.out j hj; omega
      have hne8 : ∀ j, fp (.slice b3 (L.list.length - k) c3) = some j → j ≠ b := fun j hj e => by have := F5.out j hj; omega
      refine ⟨v7, .slice b3 (L.list.length - k) c3, ?_, ?_, ?_, fb, fun j hj => ⟨.inr (by have := hF7.out j hj; omega), hne7 j hj⟩, fun j hj => ⟨.inr (by have := F5.out j hj; omega), hne8 j hj⟩, fun j hj e => by have := hF7.out j hj; have := KO5.out.lt e; omega⟩
      · show Blk _ b [_, _, _, .int .i64 a, _, _, .int .i64 ((a / 54 * 54 : Nat) : Int), _, _] 83
        rw [ebase]; exact hB2
      · have := hP.far (p := ⟨b, 6, none⟩) (.int .i64 ((a : Int) / 54 * 54)) (fun e => hne7 b e rfl)
        show Own _ v7 5 1 (L.buf.drop (a / 54 * 54 - L.base)).length (bytesV (L.buf.drop (a / 54 * 54 - L.base)))
        rw [HM.out, List.length_drop]; exact this
      · have := hO.far (p := ⟨b, 6, none⟩) (.int .i64 ((a : Int) / 54 * 54)) (fun e => hne8 b e rfl)
        show Own _ _ 86 2 (L.list.drop k).length (softCells (L.list.drop k))
        rw [List.length_drop]; exact this
    have KE : Hid (Ext F w (wc.setCell ⟨b, 6, none⟩ (.int .i64 ((a : Int) / 54 * 54)))) :=
      hX.setCell _ (fun h => fb.elim id (fun h' => absurd h' (by simp at h; omega)))
    clear hB hP hO hF7 hX ebase
    go_wp2_with fail
    go_ret
    exact ⟨rfl, KEY.out, KE.out⟩

end Go.Proofs.Ytdhklomnaodcnaa
