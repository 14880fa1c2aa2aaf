/- Read of both logs: walks. -/
import Derived.Test.YtdhklomnaodcnaaFind
import Derived.StillTailTactics
namespace Go.Proofs.Ytdhklomnaodcnaa
open Go.RowKit

def Lg.read (L : Lg) (t : Int) : ByteArray × Int :=
  match L.list.find? (fun p => ((p.1 : Nat) : Int) == t) with
  | some p => (p.2, 0)
  | none => (⟨#[]⟩, 150)

theorem find_some {l : List (Nat × ByteArray)} {s e : Nat} (hc : Conts s l e) {t : Int} {k : Nat} (hk : k < l.length) (ht : (l[k].1 : Int) = t) : l.find? (fun p => ((p.1 : Nat) : Int) == t) = some l[k] := by
  rw [List.find?_eq_some_iff_getElem]
  refine ⟨by simp [ht], k, hk, rfl, fun j hj => ?_⟩
  have := hc.mono j k (by omega) hk hj
  simp; omega
theorem find_none {l : List (Nat × ByteArray)} {t : Int} (h : ∀ p ∈ l, (p.1 : Int) ≠ t) : l.find? (fun p => ((p.1 : Nat) : Int) == t) = none := by
  rw [List.find?_eq_none]
  intro p hp
  simp [h p hp]

set_option maxHeartbeats 1000000 in
theorem find_calls (b bd : Nat) (L : Lg) (F : Nat → Prop) (w : World) (h : LogAt w b L bd F) (hok : L.Ok) (t : Int) (h0 : -9223372036854775808 ≤ t) (h1 : t ≤ 9223372036854775807) :
    Calls Try.prog 44 #[.pointer (some ⟨b, 0, none⟩), .int .i64 t] w (Searched L.list t w) := by
  obtain ⟨vb, vl, hb, k1, k2, fb, f1, f2, d⟩ := h
  have hll := hok.list_length
  have HS := Lib.hid (bsearch_calls vl L.list w k2 (by omega) hok.chain hok.big t h0 h1)
  have c8 := hb.cell (i := 8) rfl
  obtain ⟨bl, cl, rfl, _, _⟩ := k2.shape
  clear k1 k2 f1 f2 d hb
  go_enter Try.func44, Try.ntmps44
  go_wp2_with fail
  refine HS.out.mono ?_
  rintro e w2 ⟨⟨k, f, rfl, hf1, hf2⟩, hE⟩
  have HF1 := Lib.hid hf1
  have HF2 := Lib.hid hf2
  clear hf1 hf2
  go_wp2_with fail
  go_ret2
  exact ⟨⟨k, f, rfl, HF1.out, HF2.out⟩, hE⟩

set_option maxHeartbeats 1000000 in
theorem lread_calls (b bd : Nat) (L : Lg) (F : Nat → Prop) (w : World) (h : LogAt w b L bd F) (hok : L.Ok) (t : Int) (h0 : -9223372036854775808 ≤ t) (h1 : t ≤ 9223372036854775807) (s : ByteArray) (c : Int) (hr : L.read t = (s, c)) :
    Calls Try.prog 15 #[.pointer (some ⟨b, 0, none⟩), .int .i64 t] w fun e w' => e = .returned (.tuple #[.string s, .int .i64 c]) ∧ Ext NoB w w' := by
  have HS := Lib.hid (find_calls b bd L F w h hok t h0 h1)
  have HC := Lib.hid hok.chain
  have HR := Lib.hid hr
  have HH := Lib.hid h
  clear hr h
  go_enter Try.func15, Try.ntmps15
  go_wp2_with fail
  refine HS.out.mono ?_
  rintro e w2 ⟨⟨k, f, rfl, hf1, hf2⟩, hE⟩
  have HE := Lib.hid hE
  have HF1 := Lib.hid hf1
  have HF2 := Lib.hid hf2
  clear hf1 hf2 hE
  cases f with
  | false =>
    have hs : s = ⟨#[]⟩ ∧ c = 150 := by
      have := HR.out
      unfold Lg.read at this
      rw [find_none (HF2.out rfl)] at this
      simp at this
      exact ⟨this.1.symm, this.2.symm⟩
    obtain ⟨rfl, rfl⟩ := hs
    go_wp2_with fail
    go_ret2
    exact ⟨rfl, HE.out⟩
  | true =>
    obtain ⟨hk, ht⟩ := HF1.out rfl
    have hs : s = L.list[k].2 ∧ c = 0 := by
      have := HR.out
      unfold Lg.read at this
      rw [find_some HC.out hk ht] at this
      simp at this
      exact ⟨this.1.symm, this.2.symm⟩
    obtain ⟨rfl, rfl⟩ := hs
    obtain ⟨vb, vl, hb, k1, k2, fb, f1, f2, d⟩ := HH.out.ext HE.out (fun _ _ _ => id)
    have c8 := hb.cell (i := 8) rfl
    obtain ⟨gl, cl, cur, rfl, _, _, _, _, _, _⟩ := k2.pos (by omega)
    have q2 := k2.cell rfl (softCells_snd L.list k hk)
    rw [Nat.mul_comm] at q2
    have hki : (k : Int) < L.list.length := by omega
    clear k1 k2 f1 f2 d hb ht HF1 HF2
    go_wp2_with fail
    go_ret2
    exact ⟨rfl, HE.out⟩

/-- The first k records hold none of that place. -/
def None0 (l : List (Nat × ByteArray)) (t : Int) (k : Nat) : Prop := ∀ q (h : q < l.length), q < k → (l[q].1 : Int) ≠ t

set_option maxHeartbeats 1000000 in
set_option maxRecDepth 100000 in
theorem rlread_calls (b bd : Nat) (L : Lg) (F : Nat → Prop) (w : World) (h : RLogAt w b L bd F) (hok : L.Ok) (t : Int) (h0 : -9223372036854775808 ≤ t) (h1 : t ≤ 9223372036854775807) (s : ByteArray) (c : Int) (hr : L.read t = (s, c)) :
    Calls Try.prog 16 #[.pointer (some ⟨b, 0, none⟩), .int .i64 t] w fun e w' => e = .returned (.tuple #[.string s, .int .i64 c]) ∧ w = w' := by
  obtain ⟨vl, hb, k2, fb, f2⟩ := h
  have hll := hok.list_length
  have c7 := hb.cell (i := 7) rfl
  obtain ⟨bl, cl, rfl, _, _⟩ := k2.shape
  have K2 := Lib.hid k2
  have HC := Lib.hid hok.chain
  have HR := Lib.hid hr
  clear k2 f2 hb hr
  go_enter Try.func16, Try.ntmps16
  go_wp2_with fail
  go_loop [6] (fun v6 => ∃ k : Nat, k ≤ L.list.length ∧ v6 = .int .i64 k ∧ None0 L.list t k) (fun v6 => L.list.length - (intOf v6).toNat)
  case atStart => exact ⟨0, Nat.zero_le _, rfl, fun q h hq => by omega⟩
  case round =>
    obtain ⟨k, hk, rfl, HN⟩ := hrel
    by_cases hlt : k < L.list.length
    · obtain ⟨gl, cl', cur, hv, _, _, _, _, _, _⟩ := K2.out.pos (by omega)
      cases hv
      have q1 := K2.out.cell rfl (softCells_fst L.list k hlt)
      have q2 := K2.out.cell rfl (softCells_snd L.list k hlt)
      rw [Nat.mul_comm] at q1 q2
      have hki : (k : Int) < L.list.length := by omega
      by_cases he : (L.list[k].1 : Int) = t
      · have he' : ((L.list[k].1 : Int) == t) = true := by simp [he]
        have hs : s = L.list[k].2 ∧ c = 0 := by
          have := HR.out
          unfold Lg.read at this
          rw [find_some HC.out hlt he] at this
          simp at this
          exact ⟨this.1.symm, this.2.symm⟩
        obtain ⟨rfl, rfl⟩ := hs
        clear he
        go_wp2_with fail
        go_ret2
        exact ⟨rfl, rfl⟩
      · have he' : ((L.list[k].1 : Int) == t) = false := by simp [he]
        have HE := Lib.hid he
        clear he
        go_wp2_with fail
        exact ⟨⟨k + 1, by omega, by go_num, fun q h hq => by
          rcases Nat.eq_or_lt_of_le (Nat.le_of_lt_succ hq) with h' | h'
          · subst h'; exact HE.out
          · exact HN q h h'⟩, by simp [intOf]; omega⟩
    · have hs : s = ⟨#[]⟩ ∧ c = 150 := by
        have := HR.out
        unfold Lg.read at this
        rw [find_none (fun p hp => by
          obtain ⟨q, hq, rfl⟩ := List.getElem_of_mem hp
          exact HN q hq (by omega))] at this
        simp at this
        exact ⟨this.1.symm, this.2.symm⟩
      obtain ⟨rfl, rfl⟩ := hs
      go_wp2_with fail
      go_ret2
      exact ⟨rfl, rfl⟩
end Go.Proofs.Ytdhklomnaodcnaa
