/- What Open makes of the sectors, as plain functions. No program in sight. -/
import Derived.Test.YtdhklomnaodcnaaFl
import Derived.Test.YtdhklomnaodcnaaOctV
namespace Go.Proofs.Ytdhklomnaodcnaa
open Go.RowKit

/-- What a sector holds, where it is number k of the stream. -/
def dec (k : Nat) (s : ByteArray) : Option (List UInt8) :=
  if unle (s.data.toList.take 8) ≠ k + 1 ∨ 54 < unle ((s.data.toList.drop 8).take 2) then none
  else some ((s.data.toList.drop 10).take (unle ((s.data.toList.drop 8).take 2)))
theorem dec_le {k : Nat} {s : ByteArray} {l : List UInt8} (h : dec k s = some l) : l.length ≤ 54 := by
  unfold dec at h
  split at h
  · cases h
  · rename_i h0
    simp only [Option.some.injEq] at h
    subst h
    rw [List.length_take]; omega

/-- The bytes of m sectors at most, from number k on, as far as they are there and full. -/
def gather (S : List ByteArray) (first n : Nat) : Nat → Nat → List UInt8
  | 0, _ => []
  | m + 1, k => match dec k (S.getD (first + k % n) ⟨#[]⟩) with
    | none => []
    | some l => if l.length < 54 then l else l ++ gather S first n m (k + 1)
theorem gather_succ (S : List ByteArray) (first n m k : Nat) : gather S first n (m + 1) k = match dec k (S.getD (first + k % n) ⟨#[]⟩) with
    | none => []
    | some l => if l.length < 54 then l else l ++ gather S first n m (k + 1) := rfl
theorem gather_le (S : List ByteArray) (first n : Nat) : ∀ m k, (gather S first n m k).length ≤ 54 * m := by
  intro m
  induction m with
  | zero => intro k; exact Nat.le_refl _
  | succ m ih =>
    intro k
    rw [gather_succ]
    split
    · simp
    · rename_i l h
      have := dec_le h
      split
      · omega
      · rw [List.length_append]; have := ih (k + 1); omega

/-- The size of the record at place e; nought: none is whole there. -/
def sizeAt (buf : List UInt8) (base e : Nat) : Nat :=
  if buf.length < e - base + 2 then 0
  else if buf.length < e - base + 2 + unle ((buf.drop (e - base)).take 2) then 0 else unle ((buf.drop (e - base)).take 2)
def recAt (buf : List UInt8) (base e : Nat) : ByteArray := ⟨((buf.drop (e - base + 2)).take (sizeAt buf base e)).toArray⟩
theorem sizeAt_le {buf : List UInt8} {base e : Nat} (h : sizeAt buf base e ≠ 0) : e - base + 2 + sizeAt buf base e ≤ buf.length := by
  unfold sizeAt at *
  split
  · rename_i h0; rw [if_pos h0] at h; exact absurd rfl h
  · rename_i h0; rw [if_neg h0] at h
    split
    · rename_i h1; rw [if_pos h1] at h; exact absurd rfl h
    · omega
theorem recAt_size {buf : List UInt8} {base e : Nat} (h : sizeAt buf base e ≠ 0) : (recAt buf base e).size = sizeAt buf base e := by
  have := sizeAt_le h
  show (List.toArray _).size = _
  rw [List.size_toArray, List.length_take, List.length_drop]; omega
/-- The records from place e on, and where they end. -/
def parse (buf : List UInt8) (base : Nat) : Nat → Nat → List (Nat × ByteArray) × Nat
  | 0, e => ([], e)
  | f + 1, e => if sizeAt buf base e = 0 then ([], e) else ((e, recAt buf base e) :: (parse buf base f (e + 2 + sizeAt buf base e)).1, (parse buf base f (e + 2 + sizeAt buf base e)).2)
theorem parse_stop {buf : List UInt8} {base e : Nat} (h : sizeAt buf base e = 0) (f : Nat) : parse buf base f e = ([], e) := by
  cases f with
  | zero => rfl
  | succ f => unfold parse; rw [if_pos h]
theorem parse_go {buf : List UInt8} {base e : Nat} (h : sizeAt buf base e ≠ 0) (f : Nat) :
    parse buf base (f + 1) e = ((e, recAt buf base e) :: (parse buf base f (e + 2 + sizeAt buf base e)).1, (parse buf base f (e + 2 + sizeAt buf base e)).2) := by
  rw [parse, if_neg h]
theorem unle2_lt (l : List UInt8) (h : l.length ≤ 2) : unle l ≤ 65535 := by
  match l, h with
  | [], _ => simp [unle]
  | [a], _ => have := a.toNat_lt; simp [unle]; omega
  | [a, b], _ => have := a.toNat_lt; have := b.toNat_lt; simp [unle]; omega
theorem sizeAt_lt (buf : List UInt8) (base e : Nat) : sizeAt buf base e ≤ 65535 := by
  unfold sizeAt
  split
  · omega
  · split
    · omega
    · exact unle2_lt _ (by rw [List.length_take]; omega)
theorem parse_spec (buf : List UInt8) (base : Nat) : ∀ f e, base ≤ e → Conts e (parse buf base f e).1 (parse buf base f e).2 ∧ e ≤ (parse buf base f e).2 ∧ (parse buf base f e).2 - base ≤ max buf.length (e - base) := by
  intro f
  induction f with
  | zero => intro e _; exact ⟨rfl, Nat.le_refl _, by show e - base ≤ _; omega⟩
  | succ f ih =>
    intro e he
    by_cases h : sizeAt buf base e = 0
    · rw [parse_stop h]; exact ⟨rfl, Nat.le_refl _, by show e - base ≤ _; omega⟩
    · rw [parse_go h]
      obtain ⟨h1, h2, h3⟩ := ih (e + 2 + sizeAt buf base e) (by omega)
      have hs := recAt_size h
      have hl := sizeAt_le h
      refine ⟨⟨rfl, by rw [hs]; omega, by rw [hs]; exact sizeAt_lt _ _ _, ?_⟩, ?_, ?_⟩
      · rw [hs]; exact h1
      · show e ≤ (parse buf base f (e + 2 + sizeAt buf base e)).2; omega
      · show (parse buf base f (e + 2 + sizeAt buf base e)).2 - base ≤ _; omega

def rawBuf (S : List ByteArray) (first n start : Nat) : List UInt8 := gather S first n n (start / 54)
/-- The log that Open makes. -/
def opened (S : List ByteArray) (first n start : Nat) : Lg :=
  ⟨first, n, start, (parse (rawBuf S first n start) (start / 54 * 54) (rawBuf S first n start).length start).2, (parse (rawBuf S first n start) (start / 54 * 54) (rawBuf S first n start).length start).2,
    (rawBuf S first n start).take ((parse (rawBuf S first n start) (start / 54 * 54) (rawBuf S first n start).length start).2 - start / 54 * 54) ++
      List.replicate ((parse (rawBuf S first n start) (start / 54 * 54) (rawBuf S first n start).length start).2 - start / 54 * 54 - (rawBuf S first n start).length) 0,
    (parse (rawBuf S first n start) (start / 54 * 54) (rawBuf S first n start).length start).1⟩
theorem opened_Ok (S : List ByteArray) (first n start : Nat) (h1 : 128 ≤ n) (h2 : n ≤ 4096) (h3 : first + n ≤ 5000) (h4 : 54 ≤ start) (h5 : start ≤ 1099511627776) : (opened S first n start).Ok := by
  obtain ⟨p1, p2, p3⟩ := parse_spec (rawBuf S first n start) (start / 54 * 54) (rawBuf S first n start).length start (by omega)
  have hg := gather_le S first n n (start / 54)
  have hr : (rawBuf S first n start).length ≤ 54 * n := hg
  unfold opened
  generalize parse (rawBuf S first n start) (start / 54 * 54) (rawBuf S first n start).length start = q at *
  generalize rawBuf S first n start = buf at *
  refine ⟨h1, h2, h3, h4, p2, Nat.le_refl _, ?_, ?_, ?_, p1⟩
  · show q.2 ≤ _; omega
  · show start / 54 * 54 + (buf.take (q.2 - start / 54 * 54) ++ List.replicate (q.2 - start / 54 * 54 - buf.length) 0).length = q.2
    rw [List.length_append, List.length_take, List.length_replicate]; omega
  · show (buf.take (q.2 - start / 54 * 54) ++ List.replicate (q.2 - start / 54 * 54 - buf.length) 0).length ≤ 54 * n
    rw [List.length_append, List.length_take, List.length_replicate]; omega
end Go.Proofs.Ytdhklomnaodcnaa
