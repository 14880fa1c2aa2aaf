/- wal's find: the binary search and its closure: walks. -/
import Derived.Test.YtdhklomnaodcnaaLg
import Derived.Test.YtdhklomnaodcnaaProg
namespace Go.Proofs.Ytdhklomnaodcnaa
open Go.RowKit

def dif (x : Nat) (t : Int) : Int := wrap64 ((x : Int) - t)

set_option maxHeartbeats 400000 in
theorem find1_calls (x : Nat) (s : ByteArray) (t : Int) (w : World) :
    Calls Try.prog 65 #[.agg #[.int .i64 x, .string s], .int .i64 t] w fun e w' => e = .returned (.int .i64 (dif x t)) ∧ Ext NoB w w' := by
  go_enter Try.func65, Try.ntmps65
  go_wp2_with fail
  go_ret
  exact ⟨rfl, (Ext.refl _ _).alloc _⟩

/-- Found or not, and where. -/
def Searched (l : List (Nat × ByteArray)) (t : Int) (w : World) (e : Ending) (w' : World) : Prop :=
  (∃ (k : Nat) (f : Bool), e = .returned (.tuple #[.int .i64 k, .bool f]) ∧ (f = true → ∃ h : k < l.length, (l[k].1 : Int) = t) ∧ (f = false → ∀ p ∈ l, (p.1 : Int) ≠ t)) ∧ Ext NoB w w'

theorem dif_zero {x : Nat} {t : Int} (hx : x ≤ 4611686018427387904) (h0 : -9223372036854775808 ≤ t) (h1 : t ≤ 9223372036854775807) : dif x t = 0 ↔ (x : Int) = t := by
  unfold dif wrap64; omega
theorem dif_plain {x : Nat} {t : Int} (hx : x ≤ 4611686018427387904) (h0 : 0 ≤ t) (h1 : t ≤ 4611686018427387904) : dif x t = (x : Int) - t := by
  unfold dif wrap64; omega

/-- Ahead of a all places are below t; -/
def Low (l : List (Nat × ByteArray)) (t : Int) (a : Nat) : Prop := 0 ≤ t → t ≤ 4611686018427387904 → ∀ q (h : q < l.length), q < a → (l[q].1 : Int) < t
/-- from b on none is. -/
def High (l : List (Nat × ByteArray)) (t : Int) (b : Nat) : Prop := 0 ≤ t → t ≤ 4611686018427387904 → ∀ q (h : q < l.length), b ≤ q → t ≤ (l[q].1 : Int)

theorem search_ends {l : List (Nat × ByteArray)} {s e : Nat} (hc : Conts s l e) (he : e ≤ 4611686018427387904) {t : Int} {a : Nat}
    (HA : Low l t a) (HB : High l t a) (hno : ∀ h : a < l.length, (l[a].1 : Int) ≠ t) : ∀ p ∈ l, (p.1 : Int) ≠ t := by
  intro p hp he'
  obtain ⟨q, hq, rfl⟩ := List.getElem_of_mem hp
  have hlt := hc.lt q hq
  have t0 : 0 ≤ t := by omega
  have t1 : t ≤ 4611686018427387904 := by omega
  rcases Nat.lt_or_ge q a with h | h
  · have := HA t0 t1 q hq h; omega
  · rcases Nat.eq_or_lt_of_le h with h | h
    · subst h; exact hno hq he'
    · have hal : a < l.length := by omega
      have := HB t0 t1 a hal (Nat.le_refl _)
      have h3 := hc.mono a q hal hq h
      omega

set_option maxHeartbeats 2000000 in
set_option maxRecDepth 100000 in
theorem bsearch_calls (v : Value) (l : List (Nat × ByteArray)) (w : World) (h : Own w v 86 2 l.length (softCells l)) (hl : l.length ≤ 221184) {s e : Nat} (hc : Conts s l e) (he : e ≤ 4611686018427387904) (t : Int) (h0 : -9223372036854775808 ≤ t) (h1 : t ≤ 9223372036854775807) :
    Calls Try.prog 64 #[v, .int .i64 t, .func (.func 65) #[] #[]] w (Searched l t w) := by
  obtain ⟨base, cap, rfl, _, _⟩ := h.shape
  have HO := Lib.hid h
  have HC := Lib.hid hc
  clear h hc
  go_enter Try.func64, Try.ntmps64
  go_wp2_with fail
  go_loopw [9, 10] (fun v9 v10 wr => ∃ a b : Nat, a ≤ b ∧ b ≤ l.length ∧ v9 = .int .i64 a ∧ v10 = .int .i64 b ∧ Low l t a ∧ High l t b ∧ Ext NoB w wr) (fun v9 v10 _ => ((intOf v10) - (intOf v9)).toNat)
  case atStart => exact ⟨0, l.length, Nat.zero_le _, Nat.le_refl _, rfl, rfl, fun _ _ q hq h0 => by omega, fun _ _ q hq h0 => by omega, Ext.refl _ _⟩
  case round =>
    obtain ⟨a, b, hab, hb, rfl, rfl, HA, HB, hE⟩ := hrel
    have HE := Lib.hid hE
    clear hE
    by_cases hlt : a < b
    · obtain ⟨m, hm⟩ : ∃ m, (a + b) / 2 = m := ⟨_, rfl⟩
      have hm' : ((a : Int) + (b : Int)) / 2 = (m : Int) := by omega
      have hml : m < l.length := by omega
      have hmi : (m : Int) < l.length := by omega
      have hma : a ≤ m := by omega
      have hmb : m < b := by omega
      clear hm
      have HM := Lib.hid hm'
      obtain ⟨g, cap', cur, hv, hfp, hblk, hn, hcm, hcl, hct⟩ := HO.out.pos (by omega)
      cases hv
      have O' := HO.out.ext HE.out (fun _ _ => id)
      have q1 := O'.cell rfl (softCells_fst l m hml)
      have q2 := O'.cell rfl (softCells_snd l m hml)
      rw [Nat.mul_comm] at q1 q2
      clear hfp hblk hcl hct O'
      by_cases hd : dif l[m].1 t < 0
      · have HD := Lib.hid hd
        go_wp2_with fail
        refine (find1_calls _ _ _ _).mono ?_
        rintro e w2 ⟨rfl, hE2⟩
        have KE := Lib.hid (HE.out.trans hE2 (fun _ _ h => h))
        have KA : Low l t (m + 1) := fun t0 t1 q hq hqm => by
          have z2 := HC.out.lt m hml
          have hd2 := HD.out
          rw [dif_plain (by omega) t0 t1] at hd2
          rcases Nat.eq_or_lt_of_le (Nat.le_of_lt_succ hqm) with h | h
          · subst h; omega
          · have := HC.out.mono q m hq hml h; omega
        clear hE2
        go_wp2_with fail
        exact ⟨⟨m + 1, b, by omega, hb, by go_num, rfl, KA, HB, KE.out⟩, by simp [intOf]; omega⟩
      · have hd' : 0 ≤ dif l[m].1 t := by omega
        have HD := Lib.hid hd'
        go_wp2_with fail
        refine (find1_calls _ _ _ _).mono ?_
        rintro e w2 ⟨rfl, hE2⟩
        have KE := Lib.hid (HE.out.trans hE2 (fun _ _ h => h))
        have KB : High l t m := fun t0 t1 q hq hqm => by
          have z2 := HC.out.lt m hml
          have hd2 := HD.out
          rw [dif_plain (by omega) t0 t1] at hd2
          rcases Nat.eq_or_lt_of_le hqm with h | h
          · subst h; omega
          · have := HC.out.mono m q hml hq h; omega
        clear hE2
        go_wp2_with fail
        exact ⟨⟨a, m, hma, by omega, rfl, rfl, HA, KB, KE.out⟩, by simp [intOf]; omega⟩
    · have hba : b = a := by omega
      subst hba
      by_cases hal : b < l.length
      · obtain ⟨g, cap', cur, hv, hfp, hblk, hn, hcm, hcl, hct⟩ := HO.out.pos (by omega)
        cases hv
        have O' := HO.out.ext HE.out (fun _ _ => id)
        have q1 := O'.cell rfl (softCells_fst l b hal)
        have q2 := O'.cell rfl (softCells_snd l b hal)
        rw [Nat.mul_comm] at q1 q2
        have hali : (b : Int) < l.length := by omega
        clear hfp hblk hcl hct O'
        by_cases hd : dif l[b].1 t = 0
        · have hd' : (dif l[b].1 t == 0) = true := by simp [hd]
          have z2 := HC.out.lt b hal
          have HD := Lib.hid ((dif_zero (by omega) h0 h1).1 hd)
          clear hd z2
          go_wp2_with fail
          refine (find1_calls _ _ _ _).mono ?_
          rintro e w2 ⟨rfl, hE2⟩
          have KE := Lib.hid (HE.out.trans hE2 (fun _ _ h => h))
          clear hE2
          go_wp2_with fail
          go_ret2
          exact ⟨⟨_, _, rfl, fun _ => ⟨hal, HD.out⟩, by simp⟩, KE.out⟩
        · have hd' : (dif l[b].1 t == 0) = false := by simp [hd]
          have z2 := HC.out.lt b hal
          have HD := Lib.hid (fun h => hd ((dif_zero (by omega) h0 h1).2 h))
          clear hd z2
          go_wp2_with fail
          refine (find1_calls _ _ _ _).mono ?_
          rintro e w2 ⟨rfl, hE2⟩
          have KE := Lib.hid (HE.out.trans hE2 (fun _ _ h => h))
          clear hE2
          go_wp2_with fail
          go_ret2
          exact ⟨⟨_, _, rfl, by simp, fun _ => search_ends HC.out he HA HB (fun _ => HD.out)⟩, KE.out⟩
      · go_wp2_with fail
        go_ret2
        exact ⟨⟨_, _, rfl, by simp, fun _ => search_ends HC.out he HA HB (fun h => absurd h hal)⟩, HE.out⟩
end Go.Proofs.Ytdhklomnaodcnaa
