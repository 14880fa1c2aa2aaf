/- Wipe as a plain function. No program in sight. -/
import Derived.Test.YtdhklomnaodcnaaOp
import Derived.Test.YtdhklomnaodcnaaRefP
namespace Go.Proofs.Ytdhklomnaodcnaa
open Go.RowKit

/-- The first m sectors of the log, each with its place in the ring. -/
def Lg.held (L : Lg) (m : Nat) : List (Nat × ByteArray) := (List.range m).map fun t => ((L.base / 54 + t) % L.n, L.sect (L.base / 54 + t))
theorem Lg.held_succ (L : Lg) (m : Nat) : L.held (m + 1) = L.held m ++ [((L.base / 54 + m) % L.n, L.sect (L.base / 54 + m))] := by
  simp [Lg.held, List.range_succ]
theorem lookup_none {l : List (Nat × ByteArray)} {k : Nat} (h : ∀ p ∈ l, p.1 ≠ k) : l.lookup k = none := by
  induction l with
  | nil => rfl
  | cons p r ih =>
    have hb : (k == p.1) = false := by simp; exact fun e => h p List.mem_cons_self e.symm
    simp only [List.lookup, hb]
    exact ih (fun q hq => h q (List.mem_cons_of_mem _ hq))
theorem mod_ne {a n t m : Nat} (h1 : t < m) (h2 : m < n) : (a + t) % n ≠ (a + m) % n := by
  intro e
  have h3 := Nat.sub_mod_eq_zero_of_mod_eq e.symm
  rw [Nat.add_sub_add_left, Nat.mod_eq_of_lt (by omega)] at h3
  omega
theorem Lg.held_new (L : Lg) {m : Nat} (hm : m < L.n) : (L.held m).lookup ((L.base / 54 + m) % L.n) = none := by
  refine lookup_none fun p hp => ?_
  obtain ⟨t, ht, rfl⟩ := List.mem_map.1 hp
  exact mod_ne (List.mem_range.1 ht) hm
theorem lookup_append (k : Nat) (l2 : List (Nat × ByteArray)) : ∀ l1 : List (Nat × ByteArray), (l1 ++ l2).lookup k = (l1.lookup k).or (l2.lookup k)
  | [] => rfl
  | p :: r => by
    simp only [List.cons_append, List.lookup]
    split
    · rfl
    · exact lookup_append k l2 r
theorem Lg.held_at (L : Lg) : ∀ {m : Nat}, m ≤ L.n → ∀ {t : Nat}, t < m → (L.held m).lookup ((L.base / 54 + t) % L.n) = some (L.sect (L.base / 54 + t)) := by
  intro m
  induction m with
  | zero => intro _ t ht; omega
  | succ m ih =>
    intro hm t ht
    rw [L.held_succ, lookup_append]
    rcases Nat.lt_or_ge t m with h | h
    · rw [ih (by omega) h]; rfl
    · have : t = m := by omega
      subst this
      rw [L.held_new (by omega)]
      simp [List.lookup]
theorem Lg.held_none (L : Lg) {m i : Nat} (h : ∀ t, t < m → (L.base / 54 + t) % L.n ≠ i) : (L.held m).lookup i = none := by
  refine lookup_none fun p hp => ?_
  obtain ⟨t, ht, rfl⟩ := List.mem_map.1 hp
  exact h t (List.mem_range.1 ht)
/-- How many sectors the log has. -/
def Lg.count (L : Lg) : Nat := (L.buf.length + 53) / 54
/-- What the ring's sector i should hold. -/
def Lg.want (L : Lg) (i : Nat) : ByteArray := ((L.held L.count).lookup i).getD blank
theorem Lg.count_le {L : Lg} (h : L.Ok) : L.count ≤ L.n := by
  have := h.bcap
  unfold Lg.count; omega
theorem Lg.want_at {L : Lg} (h : L.Ok) {t : Nat} (ht : t < L.count) : L.want ((L.base / 54 + t) % L.n) = L.sect (L.base / 54 + t) := by
  unfold Lg.want; rw [L.held_at (Lg.count_le h) ht]; rfl
theorem Lg.want_none {L : Lg} {i : Nat} (h : ∀ t, t < L.count → (L.base / 54 + t) % L.n ≠ i) : L.want i = blank := by
  unfold Lg.want; rw [L.held_none h]; rfl
/-- m sectors of the ring, from number i on, made what they should be. -/
def Lg.wipes (L : Lg) : Nat → Nat → Dk → Dk
  | 0, _, D => D
  | m + 1, i, D => if D.seen.getD (L.first + i) ⟨#[]⟩ = L.want i then L.wipes m (i + 1) D else L.wipes m (i + 1) (D.put (L.first + i) (L.want i))
theorem Lg.wipes_succ (L : Lg) (m i : Nat) (D : Dk) : L.wipes (m + 1) i D = if D.seen.getD (L.first + i) ⟨#[]⟩ = L.want i then L.wipes m (i + 1) D else L.wipes m (i + 1) (D.put (L.first + i) (L.want i)) := rfl
theorem Lg.sect_size (L : Lg) (k : Nat) : (L.sect k).size = 64 := sec_size _ _ (L.part_le k)
theorem Lg.want_size (L : Lg) (i : Nat) : (L.want i).size = 64 := by
  unfold Lg.want
  have key : ∀ l : List (Nat × ByteArray), (∀ p ∈ l, p.2.size = 64) → ((l.lookup i).getD blank).size = 64 := by
    intro l
    induction l with
    | nil => intro _; rfl
    | cons p r ih =>
      intro h
      simp only [List.lookup]
      split
      · exact h p List.mem_cons_self
      · exact ih (fun q hq => h q (List.mem_cons_of_mem _ hq))
  refine key _ fun p hp => ?_
  obtain ⟨t, _, rfl⟩ := List.mem_map.1 hp
  exact L.sect_size _
theorem Dk.write_put {D : Dk} (hd : D.down = false) (hf : D.fuel = -1) {j : Nat} (hj : j < D.firm.length) {s : ByteArray} (hs : s.size = 64) : D.write (j : Int) s = (0, D.put j s) := by
  unfold Dk.write
  rw [if_neg (by simp [hd]), if_neg (by rw [hs]; omega), if_neg (by rw [hf]; decide)]
  simp
theorem Dk.read_in {D : Dk} (hd : D.down = false) {j : Nat} (hj : j < D.firm.length) : D.read (j : Int) = (D.seen.getD j ⟨#[]⟩, 0) := by
  unfold Dk.read
  rw [if_neg (by simp [hd]), if_neg (by omega)]
  simp
theorem Dk.barrier_flat {D : Dk} (hd : D.down = false) (hf : D.fuel = -1) : D.barrier = (0, D.flat) := by
  unfold Dk.barrier
  rw [if_neg (by simp [hd]), if_neg (by rw [hf]; decide)]
theorem Dk.put_free {D : Dk} (hf : D.fuel = -1) (j : Nat) (s : ByteArray) : (D.put j s).fuel = -1 := by
  rw [Dk.put_fuel]; unfold Dk.less; rw [hf]; rfl
end Go.Proofs.Ytdhklomnaodcnaa
