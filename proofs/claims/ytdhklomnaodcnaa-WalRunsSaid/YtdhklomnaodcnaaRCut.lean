/- jettyref07's Cut: the walk. -/
import Derived.Test.YtdhklomnaodcnaaRead
import Derived.Test.YtdhklomnaodcnaaClone
import Derived.Test.YtdhklomnaodcnaaRefP
import Derived.Test.YtdhklomnaodcnaaHead
import Derived.Deep.DeepCutAuto
import Derived.Deep.CutBlock
namespace Go.Proofs.Ytdhklomnaodcnaa
open Go.RowKit

/-- What the loop has found among the first i. -/
def Seen (l : List (Nat × ByteArray)) (t : Int) (i : Nat) (v : Int) : Prop :=
  (v = -1 ∧ None0 l t i) ∨ ∃ (k : Nat) (h : k < l.length), v = k ∧ k < i ∧ (l[k].1 : Int) = t
theorem Seen.next {l : List (Nat × ByteArray)} {t : Int} {i : Nat} {v : Int} (h : Seen l t i v) (hi : i < l.length) (hn : (l[i].1 : Int) ≠ t) : Seen l t (i + 1) v := by
  rcases h with ⟨rfl, h⟩ | ⟨k, hk, e, hki, ht⟩
  · refine .inl ⟨rfl, fun q h' hq => ?_⟩
    rcases Nat.eq_or_lt_of_le (Nat.le_of_lt_succ hq) with h1 | h1
    · subst h1; exact hn
    · exact h q h' h1
  · exact .inr ⟨k, hk, e, by omega, ht⟩
theorem Seen.lo {l : List (Nat × ByteArray)} {t : Int} {i : Nat} {v : Int} (h : Seen l t i v) : -1 ≤ v ∧ v < l.length := by
  rcases h with ⟨rfl, _⟩ | ⟨k, hk, rfl, _, _⟩ <;> omega

set_option maxHeartbeats 2000000 in
set_option maxRecDepth 100000 in
theorem rcut_no (b bd : Nat) (L : Lg) (F : Nat → Prop) (w : World) (h : RLogAt w b L bd F) (hok : L.Ok) (t : Int) (h0 : -9223372036854775808 ≤ t) (h1 : t ≤ 9223372036854775807) (hno : (L.firm : Int) < t ∨ (t ≠ L.fin ∧ ∀ p ∈ L.list, (p.1 : Int) ≠ t)) :
    Calls Try.prog 18 #[.pointer (some ⟨b, 0, none⟩), .int .i64 t] w fun e w' => e = .returned (.int .i64 1) ∧ w = w' := by
  obtain ⟨vl, hb, k2, fb, f2⟩ := h
  have hll := hok.list_length
  have c7 := hb.cell (i := 7) rfl
  have c4 := hb.cell (i := 4) rfl
  have c5 := hb.cell (i := 5) rfl
  obtain ⟨bl, cl, rfl, _, _⟩ := k2.shape
  have K2 := Lib.hid k2
  have HC := Lib.hid hok.chain
  have HNO := Lib.hid hno
  clear k2 f2 hb hno
  go_enter Try.func18, Try.ntmps18
  go_wp2_with fail
  go_loop [5, 6] (fun v5 v6 => ∃ (k : Nat) (v : Int), k ≤ L.list.length ∧ v6 = .int .i64 k ∧ v5 = .int .i64 v ∧ Seen L.list t k v) (fun v5 v6 => L.list.length - (intOf v6).toNat)
  case atStart => exact ⟨0, -1, Nat.zero_le _, rfl, rfl, .inl ⟨rfl, fun q h hq => by omega⟩⟩
  case round =>
    obtain ⟨k, v, hk, rfl, rfl, HN⟩ := hrel
    have hv := HN.lo
    have HN := Lib.hid HN
    by_cases hlt : k < L.list.length
    · obtain ⟨gl, cl', cur, hv, _, _, _, _, _, _⟩ := K2.out.pos (by omega)
      cases hv
      have q1 := K2.out.cell rfl (softCells_fst L.list k hlt)
      rw [Nat.mul_comm] at q1
      have hki : (k : Int) < L.list.length := by omega
      by_cases he : (L.list[k].1 : Int) = t
      · have he' : ((L.list[k].1 : Int) == t) = true := by simp [he]
        have HE := Lib.hid he
        clear he
        go_wp2_with fail
        exact ⟨⟨k + 1, k, by omega, by go_num, rfl, .inr ⟨k, hlt, rfl, by omega, HE.out⟩⟩, by simp [intOf]; omega⟩
      · have he' : ((L.list[k].1 : Int) == t) = false := by simp [he]
        have HE := Lib.hid he
        clear he
        go_wp2_with fail
        exact ⟨⟨k + 1, v, by omega, by go_num, rfl, HN.out.next hlt HE.out⟩, by simp [intOf]; omega⟩
    · obtain rfl : k = L.list.length := by omega
      by_cases hbig : (L.firm : Int) < t
      · have hbig' : decide ((L.firm : Int) < t) = true := by simpa using hbig
        by_cases he : t = L.fin
        · have he' : (t == (L.fin : Int)) = true := by simp [he]
          clear he
          go_wp2_with fail
          go_ret
          exact ⟨rfl, rfl⟩
        · have he' : (t == (L.fin : Int)) = false := by simp [he]
          clear he
          by_cases hneg : v < 0
          · go_wp2_with fail
            go_ret
            exact ⟨rfl, rfl⟩
          · go_wp2_with fail
            go_ret
            exact ⟨rfl, rfl⟩
      · obtain ⟨hn1, hn2⟩ := HNO.out.resolve_left hbig
        have he' : (t == (L.fin : Int)) = false := by simp [hn1]
        have hv1 : v = -1 := by
          rcases HN.out with ⟨h, _⟩ | ⟨k, hk, _, _, ht⟩
          · exact h
          · exact absurd ht (hn2 _ (List.getElem_mem hk))
        subst hv1
        clear hn1 hn2
        go_wp2_with fail
        go_ret
        exact ⟨rfl, rfl⟩

theorem bytes_drop (l : List UInt8) (m : Nat) : (⟨l.toArray⟩ : ByteArray).extract m l.length = ⟨(l.drop m).toArray⟩ := by
  apply ByteArray.ext
  simp [ByteArray.data_extract]
  exact List.take_of_length_le (by simp)

set_option maxHeartbeats 4000000 in
set_option maxRecDepth 100000 in
theorem rcut_yes (b bd : Nat) (L : Lg) (F : Nat → Prop) (w : World) (h : RLogAt w b L bd F) (hok : L.Ok) (a k : Nat) (hc : L.CutOk a k) :
    Calls Try.prog 18 #[.pointer (some ⟨b, 0, none⟩), .int .i64 a] w fun e w' => e = .returned (.int .i64 0) ∧ RLogAt w' b (L.cutAt a k) bd (Fsh F w) ∧ Ext F w w' := by
  have hge := hc.ge hok
  have hbig := hok.big
  have hll := hok.list_length
  have hbc := hok.bcap
  have hn2 := hok.n2
  have hbase := Lg.base_le hok
  have HBL : Hid (L.base + L.buf.length = L.fin) := hok.blen
  have hbb : L.start / 54 * 54 ≤ a / 54 * 54 := by omega
  have haf : a ≤ L.firm := hc.1
  have haf' : decide ((L.firm : Int) < (a : Int)) = false := by simp; omega
  have HC := Lib.hid hc
  have HCH := Lib.hid hok.chain
  obtain ⟨m, hm⟩ : ∃ m, a / 54 * 54 - L.start / 54 * 54 = m := ⟨_, rfl⟩
  have hml : m ≤ L.buf.length := by have := HBL.out; unfold Lg.base at this; omega
  have hlb : L.buf.length ≤ 221184 := by omega
  have HFa := fun n => floor_calls a (by omega) (w.drewN n)
  have HFs := fun n => floor_calls L.start (by omega) (w.drewN n)
  obtain ⟨fa, hfa⟩ : ∃ x, a / 54 * 54 = x := ⟨_, rfl⟩
  obtain ⟨fs, hfs⟩ : ∃ x, L.start / 54 * 54 = x := ⟨_, rfl⟩
  rw [hfa] at HFa
  rw [hfs] at HFs
  have HFa := Lib.hid HFa
  have HFs := Lib.hid HFs
  have hmw : IntKind.i64.wrap ((fa : Int) - (fs : Int)) = (m : Int) := by
    rw [show (fa : Int) - (fs : Int) = (m : Int) by omega]
    exact IntWalk.i64_in _ (by omega)
  clear hfa hfs
  have HM := Lib.hid hm
  have hkl : k ≤ L.list.length := by rcases hc.2 with ⟨_, rfl⟩ | ⟨h, _⟩ <;> omega
  obtain ⟨vl, hb, k2, fb, f2⟩ := h
  have c7 := hb.cell (i := 7) rfl
  have c6 := hb.cell (i := 6) rfl
  have c4 := hb.cell (i := 4) rfl
  have c3 := hb.cell (i := 3) rfl
  have c5 := hb.cell (i := 5) rfl
  have r6 := hb.fr 6
  obtain ⟨bl, cl, rfl, hcl1, hcl2⟩ := k2.shape
  have K2 := Lib.hid k2
  have KB := Lib.hid hb
  have G2 := Lib.hid f2
  clear k2 f2 hb hc hm
  go_enter Try.func18, Try.ntmps18
  go_wp2_with fail
  go_loop [5, 6] (fun v5 v6 => ∃ (k : Nat) (v : Int), k ≤ L.list.length ∧ v6 = .int .i64 k ∧ v5 = .int .i64 v ∧ Seen L.list a k v) (fun v5 v6 => L.list.length - (intOf v6).toNat)
  case atStart => exact ⟨0, -1, Nat.zero_le _, rfl, rfl, .inl ⟨rfl, fun q h hq => by omega⟩⟩
  case round =>
    obtain ⟨i, v, hk, rfl, rfl, HN⟩ := hrel
    have hv := HN.lo
    have HN := Lib.hid HN
    by_cases hlt : i < L.list.length
    · obtain ⟨gl, cl', cur, hv, _, _, _, _, _, _⟩ := K2.out.pos (by omega)
      cases hv
      have q1 := K2.out.cell rfl (softCells_fst L.list i hlt)
      rw [Nat.mul_comm] at q1
      have hki : (i : Int) < L.list.length := by omega
      by_cases he : (L.list[i].1 : Int) = a
      · have he' : ((L.list[i].1 : Int) == (a : Int)) = true := by simp [he]
        have HE := Lib.hid he
        clear he
        go_wp2_with fail
        exact ⟨⟨i + 1, i, by omega, by go_num, rfl, .inr ⟨i, hlt, rfl, by omega, HE.out⟩⟩, by simp [intOf]; omega⟩
      · have he' : ((L.list[i].1 : Int) == (a : Int)) = false := by simp; omega
        have HE := Lib.hid he
        clear he
        go_wp2_with fail
        exact ⟨⟨i + 1, v, by omega, by go_num, rfl, HN.out.next hlt HE.out⟩, by simp [intOf]; omega⟩
    · obtain rfl : i = L.list.length := by omega
      go_upto_if 33 with (fail)
      go_cut [5] (fun v5 wc => v5 = .int .i64 k ∧ w = wc)
      case first =>
        by_cases he : a = L.fin
        · have he' : ((a : Int) == (L.fin : Int)) = true := by simp [he]
          have hk' : (L.list.length : Int) = (k : Int) := by
            rcases HC.out.2 with ⟨_, e⟩ | ⟨h, e⟩
            · omega
            · have := HCH.out.lt k h; omega
          have HK := Lib.hid hk'
          clear he hk'
          go_wp2_with fail
          go_meet
          case rel => exact ⟨by rw [HK.out], rfl⟩
        · have he' : ((a : Int) == (L.fin : Int)) = false := by simp; omega
          have hv' : v = (k : Int) := by
            rcases HC.out.2 with ⟨e, _⟩ | ⟨h, e⟩
            · exact absurd e he
            · rcases HN.out with ⟨_, hn⟩ | ⟨k', h', e', _, ht⟩
              · exact absurd (by omega) (hn k h h)
              · rcases Nat.lt_trichotomy k' k with h1 | h1 | h1
                · have := HCH.out.mono k' k h' h h1; omega
                · omega
                · have := HCH.out.mono k k' h h' h1; omega
          subst hv'
          clear he
          go_wp2_with fail
          go_meet
          case rel => exact ⟨rfl, rfl⟩
      case rest =>
        obtain ⟨rfl, rfl⟩ := hcut
        go_upto_region 11 with (fail)
        go_quiet ((go_at_call 42; first | exact quiet_w (HFa.out _) | exact quiet_w (HFs.out _)))
        have hmd : decide ((L.buf.length : Int) < (m : Int)) = false := by simp; omega
        have hmi : (m : Int) ≤ L.buf.length := by omega
        go_upto_region 15 with (fail)
        have HWB := Lib.hid (bytes_drop L.buf m)
        have hB6 := (KB.out.drewN nq).set 6 (.string ⟨(L.buf.drop m).toArray⟩)
        have hO6 := (K2.out.drewN nq).far (p := ⟨b, 6, none⟩) (.string ⟨(L.buf.drop m).toArray⟩) (fun e => (G2.out _ e).2 rfl)
        have hX6 := ((Ext.refl F w).drewN nq).setCell (p := ⟨b, 6, none⟩) (.string ⟨(L.buf.drop m).toArray⟩) (fun _ => fb)
        rw [HWB.out]
        obtain ⟨W6, hW6⟩ : ∃ W, (w.drewN nq).setCell ⟨b, 6, none⟩ (.string ⟨(L.buf.drop m).toArray⟩) = W := ⟨_, rfl⟩
        rw [hW6] at hB6 hO6 hX6 ⊢
        have KB6 := Lib.hid hB6
        have KO6 := Lib.hid hO6
        have X6 := Lib.hid hX6
        have c7 := hB6.cell (i := 7) rfl
        have hki : (k : Int) ≤ L.list.length := by omega
        clear hB6 hO6 hX6 hW6 HWB
        go_cut [] (fun wc => RLogAt wc b { L with buf := L.buf.drop m, list := L.list.drop k } bd (Fsh F w) ∧ Ext F w wc)
        case first =>
          by_cases hcl : cl = k
          · have hz : L.list.length - k = 0 := by omega
            have HW : Hid (Win W6 (.slice bl 0 0) 2 (L.list.length - k) (softCells (L.list.drop k))) := by
              refine .inl ⟨bl, 0, rfl, hz, ?_⟩
              rw [List.drop_eq_nil_of_le (by omega)]; rfl
            have hlk : L.list.length = k := by omega
            rw [hlk] at c7
            subst hcl
            rw [hz] at HW
            have HZ := Lib.hid hz
            clear hz hlk
            go_wp2_with (at_builtin; refine wpList_append_Own rfl _ _ 58 58 rfl 86 2 24 _ Try.underlying58 (.inl Try.underlying58) info86 rfl _ 0 [] rfl (Own.nil _ _ _) _ rfl 0 (softCells (L.list.drop cl)) HW.out.src (by rw [softCells_length, List.length_drop, HZ.out]) (softCells_one _) (by simp only [maxLen]; omega) (by omega) ?_)
            intro v5 w5 hO5 hE5 hF5
            obtain ⟨b5, c5, hv5, _, _⟩ := hO5.shape
            have hO5' : Own w5 v5 86 2 (L.list.drop cl).length (softCells (L.list.drop cl)) := by rw [List.length_drop]; rw [HZ.out]; exact hO5
            have B5 := KB6.out.ext hE5 (fun e => by simp [fp] at e)
            have q7 := B5.cell (i := 7) rfl
            have s7 := B5.fr 7
            obtain ⟨hL5, hX5⟩ := RLogAt.putList (L := { L with buf := L.buf.drop m }) (list' := L.list.drop cl) KB6.out fb G2.out hO5' (hE5.mono (fun j _ hj => by simp [fp] at hj)) (fun j hj => (hF5 j hj).elim (fun e => by simp [fp] at e) .inr)
            have KL := Lib.hid (hL5.mono (F' := Fsh F w) (fun k _ h => h.imp id (Nat.le_trans X6.out.size)))
            have KX := Lib.hid (X6.out.trans hX5 (fun _ _ h => h))
            rw [hv5] at KL KX ⊢
            clear hL5 hX5 hO5 hO5' hE5 hF5 B5 hv5
            go_wp2_with fail
            go_meet
            case rel => exact ⟨KL.out, KX.out⟩
          · obtain ⟨gl, hgl⟩ : ∃ g, bl = some ⟨g, 0, none⟩ := by
              rcases KO6.out.2 with ⟨base, e, h0⟩ | ⟨g, cap, cur, e, _⟩
              · exfalso; simp at e; omega
              · cases e; exact ⟨g, rfl⟩
            subst hgl
            have HW : Hid (Win W6 (.slice (some ⟨gl, k * 2, none⟩) (L.list.length - k) (cl - k)) 2 (L.list.length - k) (softCells (L.list.drop k))) := by
              have := KO6.out.sub (i := k) (by omega)
              rw [softCells_drop] at this
              exact this
            go_wp2_with (at_builtin; refine wpList_append_Own rfl _ _ 58 58 rfl 86 2 24 _ Try.underlying58 (.inl Try.underlying58) info86 rfl _ 0 [] rfl (Own.nil _ _ _) _ rfl (L.list.length - k) (softCells (L.list.drop k)) HW.out.src (by rw [softCells_length]; simp [List.length_drop]; try omega) (softCells_one _) (by simp only [maxLen]; omega) (by omega) ?_)
            intro v5 w5 hO5 hE5 hF5
            obtain ⟨b5, c5, hv5, _, _⟩ := hO5.shape
            have hO5' : Own w5 v5 86 2 (L.list.drop k).length (softCells (L.list.drop k)) := by rw [List.length_drop]; exact hO5
            have B5 := KB6.out.ext hE5 (fun e => by simp [fp] at e)
            have q7 := B5.cell (i := 7) rfl
            have s7 := B5.fr 7
            obtain ⟨hL5, hX5⟩ := RLogAt.putList (L := { L with buf := L.buf.drop m }) (list' := L.list.drop k) KB6.out fb G2.out hO5' (hE5.mono (fun j _ hj => by simp [fp] at hj)) (fun j hj => (hF5 j hj).elim (fun e => by simp [fp] at e) .inr)
            have KL := Lib.hid (hL5.mono (F' := Fsh F w) (fun k _ h => h.imp id (Nat.le_trans X6.out.size)))
            have KX := Lib.hid (X6.out.trans hX5 (fun _ _ h => h))
            rw [hv5] at KL KX ⊢
            clear hL5 hX5 hO5 hO5' hE5 hF5 B5 hv5
            go_wp2_with fail
            go_meet
            case rel => exact ⟨KL.out, KX.out⟩
        case rest =>
          obtain ⟨hL, hX⟩ := hcut
          obtain ⟨hL2, hX2⟩ := hL.putStart a
          have c3 : wc.cell? ⟨b, 3, none⟩ = some (.int .i64 L.start) := by obtain ⟨_, hb, _⟩ := hL; exact hb.cell rfl
          have r3 : wc.frozen? ⟨b, 3, none⟩ = false := by obtain ⟨_, hb, _⟩ := hL; exact hb.fr 3
          have KL : Hid (RLogAt (wc.setCell ⟨b, 3, none⟩ (.int .i64 a)) b (L.cutAt a k) bd (Fsh F w)) := by
            unfold Lg.cutAt Lg.base
            rw [HM.out]; exact hL2
          have KX : Hid (Ext F w (wc.setCell ⟨b, 3, none⟩ (.int .i64 a))) := hX.fsh hX2
          clear hL hX hL2 hX2
          go_wp2_with fail
          go_ret
          exact ⟨rfl, KL.out, KX.out⟩
end Go.Proofs.Ytdhklomnaodcnaa
