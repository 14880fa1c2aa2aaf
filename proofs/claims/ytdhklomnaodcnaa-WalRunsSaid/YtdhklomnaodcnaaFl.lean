/- Flush as a plain function; the device's care of itself. No program in sight. -/
import Derived.Test.YtdhklomnaodcnaaLg
import Derived.Test.YtdhklomnaodcnaaSec
namespace Go.Proofs.Ytdhklomnaodcnaa
open Go.RowKit

theorem sec_size (k : Nat) (l : List UInt8) (hl : l.length ≤ 54) : (⟨(sec k l).toArray⟩ : ByteArray).size = 64 := by
  show (sec k l).toArray.size = 64
  simp only [sec, List.size_toArray, List.length_append, le_length, List.length_replicate]
  omega

theorem Dk.off_Ok {D : Dk} (h : D.Ok) : D.off.Ok := by
  obtain ⟨h1, h2, h3, h4, h5, h6⟩ := h
  exact ⟨h1, h2, h3, h4, h5, h6⟩
theorem Dk.write_Ok {D : Dk} (h : D.Ok) (i : Int) (s : ByteArray) (hsf : D.soft.length < 1000000) :
    (D.write i s).2.Ok ∧ (D.write i s).2.firm.length = D.firm.length ∧ (D.write i s).2.soft.length ≤ D.soft.length + 1 := by
  unfold Dk.write
  split
  · exact ⟨h, rfl, by simp⟩
  · split
    · exact ⟨h, rfl, by simp⟩
    · rename_i h0
      split
      · exact ⟨Dk.off_Ok h, rfl, by simp [Dk.off]⟩
      · obtain ⟨h1, h2, h3, h4, h5, h6⟩ := Dk.less_Ok h
        refine ⟨⟨h1, h2, h3, by simp [Dk.put]; omega, h5, fun p hp => ?_⟩, rfl, by simp [Dk.put]⟩
        simp only [Dk.put, List.mem_append, List.mem_singleton] at hp
        rcases hp with hp | rfl
        · exact h6 p hp
        · simp only [not_or, Classical.not_not] at h0
          refine ⟨h0.2.2, ?_⟩
          show i.toNat < D.firm.length
          omega
theorem Dk.seen64 {D : Dk} (h : D.Ok) : ∀ s ∈ D.seen, s.size = 64 := by
  have key : ∀ (ps : List (Nat × ByteArray)) (l : List ByteArray), (∀ p ∈ ps, p.2.size = 64) → (∀ s ∈ l, s.size = 64) → ∀ s ∈ ps.foldl (fun l p => l.set p.1 p.2) l, s.size = 64 := by
    intro ps
    induction ps with
    | nil => intro l _ hl; exact hl
    | cons p ps ih =>
      intro l hp hl
      refine ih _ (fun q hq => hp q (List.mem_cons_of_mem _ hq)) (fun s hs => ?_)
      rcases List.mem_or_eq_of_mem_set hs with h | h
      · exact hl s h
      · rw [h]; exact hp p List.mem_cons_self
  exact key D.soft D.firm (fun p hp => (h.soft64 p hp).1) h.firm64
theorem Dk.flat_Ok {D : Dk} (h : D.Ok) : D.flat.Ok := by
  have hl := Dk.less_Ok h
  refine ⟨hl.lo, hl.hi, ?_, by simp [Dk.flat], Dk.seen64 h, fun p hp => by simp [Dk.flat] at hp⟩
  show D.seen.length ≤ 5000
  rw [D.seen_length]; exact h.len
theorem Dk.barrier_Ok {D : Dk} (h : D.Ok) : (D.barrier).2.Ok ∧ (D.barrier).2.firm.length = D.firm.length ∧ (D.barrier).2.soft.length ≤ D.soft.length := by
  unfold Dk.barrier
  split
  · exact ⟨h, rfl, Nat.le_refl _⟩
  · split
    · exact ⟨Dk.off_Ok h, rfl, Nat.le_refl _⟩
    · exact ⟨Dk.flat_Ok h, D.seen_length, by simp [Dk.flat]⟩

/-- What the stream's sector number i holds. -/
def Lg.part (L : Lg) (i : Nat) : List UInt8 := (L.buf.drop (i * 54 - L.base)).take 54
def Lg.sect (L : Lg) (i : Nat) : ByteArray := ⟨(sec i (L.part i)).toArray⟩
theorem Lg.part_le (L : Lg) (i : Nat) : (L.part i).length ≤ 54 := by simp [Lg.part]; omega
/-- m sectors, from number i on. -/
def Lg.writes (L : Lg) : Nat → Nat → Dk → Int × Dk
  | 0, _, D => (0, D)
  | m + 1, i, D => if (D.write ((L.first + i % L.n : Nat) : Int) (L.sect i)).1 = 0 then L.writes m (i + 1) (D.write ((L.first + i % L.n : Nat) : Int) (L.sect i)).2 else D.write ((L.first + i % L.n : Nat) : Int) (L.sect i)
theorem Lg.writes_succ (L : Lg) (m i : Nat) (D : Dk) : L.writes (m + 1) i D = if (D.write ((L.first + i % L.n : Nat) : Int) (L.sect i)).1 = 0 then L.writes m (i + 1) (D.write ((L.first + i % L.n : Nat) : Int) (L.sect i)).2 else D.write ((L.first + i % L.n : Nat) : Int) (L.sect i) := rfl
def Lg.left (L : Lg) (i : Nat) : Nat := (L.fin + 53) / 54 - i
theorem Lg.left_none {L : Lg} {i : Nat} (h : L.fin ≤ i * 54) : L.left i = 0 := by unfold Lg.left; omega
theorem Lg.left_more {L : Lg} {i : Nat} (h : i * 54 < L.fin) : L.left i = L.left (i + 1) + 1 := by unfold Lg.left; omega
def Lg.flush (L : Lg) (D : Dk) (t : Int) : Int × Lg × Dk :=
  if t < L.firm ∨ L.firm = L.fin then (0, L, D)
  else if (L.writes (L.left (L.firm / 54)) (L.firm / 54) D).1 ≠ 0 then ((L.writes (L.left (L.firm / 54)) (L.firm / 54) D).1, L, (L.writes (L.left (L.firm / 54)) (L.firm / 54) D).2)
  else if (L.writes (L.left (L.firm / 54)) (L.firm / 54) D).2.barrier.1 ≠ 0 then ((L.writes (L.left (L.firm / 54)) (L.firm / 54) D).2.barrier.1, L, (L.writes (L.left (L.firm / 54)) (L.firm / 54) D).2.barrier.2)
  else (0, { L with firm := L.fin }, (L.writes (L.left (L.firm / 54)) (L.firm / 54) D).2.barrier.2)
theorem Lg.writes_Ok (L : Lg) : ∀ (m i : Nat) (D : Dk), D.Ok → D.soft.length + m ≤ 1000000 → (L.writes m i D).2.Ok ∧ (L.writes m i D).2.firm.length = D.firm.length ∧ (L.writes m i D).2.soft.length ≤ D.soft.length + m := by
  intro m
  induction m with
  | zero => intro i D h _; exact ⟨h, rfl, Nat.le_refl _⟩
  | succ m ih =>
    intro i D h hs
    obtain ⟨h1, h2, h3⟩ := Dk.write_Ok h ((L.first + i % L.n : Nat) : Int) (L.sect i) (by omega)
    unfold Lg.writes
    split
    · obtain ⟨k1, k2, k3⟩ := ih (i + 1) _ h1 (by omega)
      exact ⟨k1, by omega, by omega⟩
    · exact ⟨h1, h2, by omega⟩
theorem Lg.left_le {L : Lg} (h : L.Ok) {i : Nat} (hi : L.base ≤ i * 54) : L.left i ≤ 4097 := by
  have := h.blen; have := h.bcap; have := h.n2
  unfold Lg.left; omega
theorem Lg.firm_Ok {L : Lg} (h : L.Ok) : ({ L with firm := L.fin } : Lg).Ok := by
  obtain ⟨a, b, c, d, e, f, g, i, j, k⟩ := h
  exact ⟨a, b, c, d, by show L.start ≤ L.fin; omega, Nat.le_refl _, g, i, j, k⟩
end Go.Proofs.Ytdhklomnaodcnaa
