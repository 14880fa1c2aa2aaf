/- The device as plain data, and where it lies in memory. No program in sight. -/
import Derived.Test.YtdhklomnaodcnaaMem
namespace Go.Proofs.Ytdhklomnaodcnaa
open Go.RowKit

/-- A device: firm sectors, pending writes, fuel, down. -/
structure Dk where
  firm : List ByteArray
  soft : List (Nat × ByteArray)
  fuel : Int
  down : Bool

def Dk.seen (D : Dk) : List ByteArray := D.soft.foldl (fun l p => l.set p.1 p.2) D.firm

theorem foldl_set_length (ps : List (Nat × ByteArray)) : ∀ l : List ByteArray, (ps.foldl (fun l p => l.set p.1 p.2) l).length = l.length := by
  induction ps with
  | nil => intro l; rfl
  | cons p ps ih => intro l; rw [List.foldl_cons, ih]; simp
theorem Dk.seen_length (D : Dk) : D.seen.length = D.firm.length := foldl_set_length _ _

structure Dk.Ok (D : Dk) : Prop where
  lo : -1 ≤ D.fuel
  hi : D.fuel ≤ 9223372036854775807
  len : D.firm.length ≤ 5000
  soft : D.soft.length ≤ 1000000
  firm64 : ∀ s ∈ D.firm, s.size = 64
  soft64 : ∀ p ∈ D.soft, p.2.size = 64 ∧ p.1 < D.firm.length

/-- A unit of fuel less. -/
def Dk.less (D : Dk) : Dk := { D with fuel := if 0 < D.fuel then D.fuel - 1 else D.fuel }
def Dk.off (D : Dk) : Dk := { D with down := true }
/-- A write more. -/
def Dk.put (D : Dk) (j : Nat) (s : ByteArray) : Dk := ⟨D.firm, D.soft ++ [(j, s)], D.less.fuel, D.down⟩
/-- All that was written is firm. -/
def Dk.flat (D : Dk) : Dk := ⟨D.seen, [], D.less.fuel, D.down⟩
theorem Dk.less_seen (D : Dk) : D.less.seen = D.seen := rfl
theorem Dk.less_firm (D : Dk) : D.less.firm = D.firm := rfl
theorem Dk.less_soft (D : Dk) : D.less.soft = D.soft := rfl
theorem Dk.less_down (D : Dk) : D.less.down = D.down := rfl
theorem Dk.put_seen (D : Dk) (j : Nat) (s : ByteArray) : (D.put j s).seen = D.seen.set j s := by simp [Dk.seen, Dk.put, List.foldl_append]
theorem Dk.put_firm (D : Dk) (j : Nat) (s : ByteArray) : (D.put j s).firm = D.firm := rfl
theorem Dk.put_soft (D : Dk) (j : Nat) (s : ByteArray) : (D.put j s).soft = D.soft ++ [(j, s)] := rfl
theorem Dk.put_fuel (D : Dk) (j : Nat) (s : ByteArray) : (D.put j s).fuel = D.less.fuel := rfl
theorem Dk.put_down (D : Dk) (j : Nat) (s : ByteArray) : (D.put j s).down = D.down := rfl
theorem Dk.less_Ok {D : Dk} (h : D.Ok) : D.less.Ok := by
  obtain ⟨h1, h2, h3, h4, h5, h6⟩ := h
  refine ⟨?_, ?_, h3, h4, h5, h6⟩ <;> simp only [Dk.less] <;> split <;> omega

def Dk.write (D : Dk) (i : Int) (s : ByteArray) : Int × Dk :=
  if D.down = true then (20, D) else if i < 0 ∨ (D.firm.length : Int) ≤ i ∨ s.size ≠ 64 then (1, D)
  else if D.fuel = 0 then (20, D.off) else (0, D.put i.toNat s)

def Dk.barrier (D : Dk) : Int × Dk :=
  if D.down = true then (20, D) else if D.fuel = 0 then (20, D.off) else (0, D.flat)

def Dk.read (D : Dk) (i : Int) : ByteArray × Int :=
  if D.down = true then (⟨#[]⟩, 20) else if i < 0 ∨ (D.firm.length : Int) ≤ i then (⟨#[]⟩, 1) else (D.seen.getD i.toNat ⟨#[]⟩, 0)

def softCells (ps : List (Nat × ByteArray)) : List Value := ps.flatMap fun p => [.int .i64 p.1, .string p.2]
theorem softCells_snoc (ps : List (Nat × ByteArray)) (i : Nat) (s : ByteArray) : softCells (ps ++ [(i, s)]) = softCells ps ++ [.int .i64 i, .string s] := by
  simp [softCells]

def strs (l : List ByteArray) : List Value := l.map Value.string

theorem strs_one (l : List ByteArray) : ∀ u ∈ strs l, u.oneCell' = true := by
  intro u hu
  obtain ⟨s, _, rfl⟩ := List.mem_map.1 hu
  rfl
theorem strs_length (l : List ByteArray) : (strs l).length = l.length * 1 := by simp [strs]
theorem strs_rep (n : Nat) (s : ByteArray) : (strs (List.replicate n s)).length = n * 1 := by simp [strs]

/-- The program's device at block b, all of it in blocks of F. -/
def DiskAt (w : World) (b : Nat) (D : Dk) (F : Nat → Prop) : Prop :=
  ∃ vf vs vn, Blk w b [vf, vs, vn, .int .i64 D.fuel, .bool D.down] 75 ∧
    Own w vf 9 1 D.firm.length (strs D.firm) ∧ Own w vs 97 2 D.soft.length (softCells D.soft) ∧ Own w vn 9 1 D.firm.length (strs D.seen) ∧
    F b ∧ (∀ k, fp vf = some k → F k ∧ k ≠ b) ∧ (∀ k, fp vs = some k → F k ∧ k ≠ b) ∧ (∀ k, fp vn = some k → F k ∧ k ≠ b) ∧
    (∀ k, fp vf = some k → fp vs ≠ some k) ∧ (∀ k, fp vf = some k → fp vn ≠ some k) ∧ (∀ k, fp vs = some k → fp vn ≠ some k)

theorem DiskAt.mono {w : World} {b : Nat} {D : Dk} {F F' : Nat → Prop} (h : DiskAt w b D F) (hF : ∀ k, k < w.heap.size → F k → F' k) : DiskAt w b D F' := by
  obtain ⟨vf, vs, vn, hb, h1, h2, h3, fb, f1, f2, f3, d⟩ := h
  exact ⟨vf, vs, vn, hb, h1, h2, h3, hF _ hb.lt fb, fun k hk => ⟨hF _ (h1.lt hk) (f1 k hk).1, (f1 k hk).2⟩, fun k hk => ⟨hF _ (h2.lt hk) (f2 k hk).1, (f2 k hk).2⟩, fun k hk => ⟨hF _ (h3.lt hk) (f3 k hk).1, (f3 k hk).2⟩, d⟩

theorem DiskAt.ext {w w' : World} {b : Nat} {D : Dk} {F S : Nat → Prop} (h : DiskAt w b D F) (e : Ext S w w') (hn : ∀ k, k < w.heap.size → F k → ¬ S k) : DiskAt w' b D F := by
  obtain ⟨vf, vs, vn, hb, h1, h2, h3, fb, f1, f2, f3, d⟩ := h
  exact ⟨vf, vs, vn, hb.ext e (hn _ hb.lt fb), h1.ext e (fun k hk => hn k (h1.lt hk) (f1 k hk).1), h2.ext e (fun k hk => hn k (h2.lt hk) (f2 k hk).1), h3.ext e (fun k hk => hn k (h3.lt hk) (f3 k hk).1), fb, f1, f2, f3, d⟩

/-- The reference's device at block b. -/
def RDiskAt (w : World) (b : Nat) (D : Dk) (F : Nat → Prop) : Prop :=
  ∃ vf vs, Blk w b [vf, vs, .int .i64 D.fuel, .bool D.down] 57 ∧
    Own w vf 9 1 D.firm.length (strs D.firm) ∧ Own w vs 99 2 D.soft.length (softCells D.soft) ∧
    F b ∧ (∀ k, fp vf = some k → F k ∧ k ≠ b) ∧ (∀ k, fp vs = some k → F k ∧ k ≠ b) ∧ (∀ k, fp vf = some k → fp vs ≠ some k)

theorem RDiskAt.mono {w : World} {b : Nat} {D : Dk} {F F' : Nat → Prop} (h : RDiskAt w b D F) (hF : ∀ k, k < w.heap.size → F k → F' k) : RDiskAt w b D F' := by
  obtain ⟨vf, vs, hb, h1, h2, fb, f1, f2, d⟩ := h
  exact ⟨vf, vs, hb, h1, h2, hF _ hb.lt fb, fun k hk => ⟨hF _ (h1.lt hk) (f1 k hk).1, (f1 k hk).2⟩, fun k hk => ⟨hF _ (h2.lt hk) (f2 k hk).1, (f2 k hk).2⟩, d⟩

theorem RDiskAt.ext {w w' : World} {b : Nat} {D : Dk} {F S : Nat → Prop} (h : RDiskAt w b D F) (e : Ext S w w') (hn : ∀ k, k < w.heap.size → F k → ¬ S k) : RDiskAt w' b D F := by
  obtain ⟨vf, vs, hb, h1, h2, fb, f1, f2, d⟩ := h
  exact ⟨vf, vs, hb.ext e (hn _ hb.lt fb), h1.ext e (fun k hk => hn k (h1.lt hk) (f1 k hk).1), h2.ext e (fun k hk => hn k (h2.lt hk) (f2 k hk).1), fb, f1, f2, d⟩

theorem DiskAt.lt {w : World} {b : Nat} {D : Dk} {F : Nat → Prop} (h : DiskAt w b D F) : b < w.heap.size := by
  obtain ⟨vf, vs, vn, hb, _⟩ := h; exact hb.lt
theorem RDiskAt.lt {w : World} {b : Nat} {D : Dk} {F : Nat → Prop} (h : RDiskAt w b D F) : b < w.heap.size := by
  obtain ⟨vf, vs, hb, _⟩ := h; exact hb.lt

theorem softCells_fst (ps : List (Nat × ByteArray)) : ∀ k (h : k < ps.length), (softCells ps)[2 * k]? = some (.int .i64 (ps[k].1 : Nat)) := by
  induction ps with
  | nil => intro k h; simp at h
  | cons p ps ih =>
    intro k h
    cases k with
    | zero => simp [softCells]
    | succ k =>
      have := ih k (by simpa using h)
      simpa [softCells, Nat.mul_add] using this
theorem softCells_snd (ps : List (Nat × ByteArray)) : ∀ k (h : k < ps.length), (softCells ps)[2 * k + 1]? = some (.string ps[k].2) := by
  induction ps with
  | nil => intro k h; simp at h
  | cons p ps ih =>
    intro k h
    cases k with
    | zero => simp [softCells]
    | succ k =>
      have := ih k (by simpa using h)
      simpa [softCells, Nat.mul_add] using this
theorem softCells_length (ps : List (Nat × ByteArray)) : (softCells ps).length = ps.length * 2 := by
  induction ps with
  | nil => rfl
  | cons p ps ih => simp only [softCells, List.flatMap_cons, List.length_append, List.length_cons, List.length_nil] at *; omega

theorem softCells_drop (ps : List (Nat × ByteArray)) : ∀ k, (softCells ps).drop (k * 2) = softCells (ps.drop k) := by
  induction ps with
  | nil => intro k; simp [softCells]
  | cons p ps ih =>
    intro k
    cases k with
    | zero => simp
    | succ k =>
      have := ih k
      rw [Nat.succ_mul]
      simpa [softCells] using this
theorem softCells_one (ps : List (Nat × ByteArray)) : ∀ u ∈ softCells ps, u.oneCell' = true := by
  intro u hu
  simp only [softCells, List.mem_flatMap] at hu
  obtain ⟨p, _, hp⟩ := hu
  simp at hp
  rcases hp with rfl | rfl <;> rfl

/-- What Read answers behind the first k pending writes. -/
def Dk.seenK (D : Dk) (k : Nat) : List ByteArray := (D.soft.take k).foldl (fun l p => l.set p.1 p.2) D.firm
theorem Dk.seenK_zero (D : Dk) : D.seenK 0 = D.firm := rfl
theorem Dk.seenK_all (D : Dk) : D.seenK D.soft.length = D.seen := by simp [Dk.seenK, Dk.seen]
theorem Dk.seenK_length (D : Dk) (k : Nat) : (D.seenK k).length = D.firm.length := foldl_set_length _ _
theorem Dk.seenK_succ (D : Dk) (k : Nat) (h : k < D.soft.length) : D.seenK (k + 1) = (D.seenK k).set D.soft[k].1 D.soft[k].2 := by
  simp only [Dk.seenK]
  rw [List.take_succ_eq_append_getElem h, List.foldl_append]
  rfl

/-! ### A crash -/
/-- A fresh device. -/
def Dk.fresh (firm : List ByteArray) : Dk := ⟨firm, [], -1, false⟩

def keepStep (l : List ByteArray) (q : (Nat × ByteArray) × Bool) : List ByteArray := if q.2 = true then l.set q.1.1 q.1.2 else l
/-- The firm bytes, and over these the first k pending writes, where they are kept. -/
def Dk.crashK (D : Dk) (ks : List Bool) (k : Nat) : List ByteArray := ((D.soft.zip ks).take k).foldl keepStep D.firm
def Dk.crash (D : Dk) (ks : List Bool) : Dk := Dk.fresh ((D.soft.zip ks).foldl keepStep D.firm)
theorem keepStep_length (ps : List ((Nat × ByteArray) × Bool)) : ∀ l : List ByteArray, (ps.foldl keepStep l).length = l.length := by
  induction ps with
  | nil => intro l; rfl
  | cons p ps ih => intro l; rw [List.foldl_cons, ih]; unfold keepStep; split <;> simp
theorem Dk.crashK_length (D : Dk) (ks : List Bool) (k : Nat) : (D.crashK ks k).length = D.firm.length := keepStep_length _ _
theorem Dk.crashK_zero (D : Dk) (ks : List Bool) : D.crashK ks 0 = D.firm := rfl
theorem Dk.crashK_over (D : Dk) (ks : List Bool) (k : Nat) (h : ks.length ≤ k ∨ D.soft.length ≤ k) : D.crashK ks k = (D.crash ks).firm := by
  unfold Dk.crashK Dk.crash Dk.fresh
  rw [List.take_of_length_le (by simp [List.length_zip]; omega)]
theorem Dk.crashK_succ (D : Dk) (ks : List Bool) (k : Nat) (h : k < D.soft.length) (h' : k < ks.length) :
    D.crashK ks (k + 1) = if ks[k] = true then (D.crashK ks k).set D.soft[k].1 D.soft[k].2 else D.crashK ks k := by
  unfold Dk.crashK
  have hz : k < (D.soft.zip ks).length := by simp [List.length_zip]; omega
  rw [List.take_succ_eq_append_getElem hz, List.foldl_append]
  simp [keepStep, List.getElem_zip]
theorem Dk.crashK_stay (D : Dk) (ks : List Bool) (k : Nat) (h' : ks.length ≤ k) : D.crashK ks (k + 1) = D.crashK ks k := by
  rw [D.crashK_over ks (k + 1) (by omega), D.crashK_over ks k (by omega)]

/-- A slice of bools that came in. -/
def KeepAt (w : World) (v : Value) (ks : List Bool) : Prop :=
  (∃ base cap, v = .slice base 0 cap ∧ ks = []) ∨
  ∃ bk ok cap, v = .slice (some ⟨bk, ok, none⟩) ks.length cap ∧ bk < w.heap.size ∧ ∀ i b, ks[i]? = some b → w.cell? ⟨bk, ok + i, none⟩ = some (.bool b)
theorem KeepAt.ext {w w' : World} {v : Value} {ks : List Bool} {S : Nat → Prop} {B : Nat} (h : KeepAt w v ks) (e : Ext S w w') (hv : ∀ a n c, v = .slice (some a) n c → a.block < B) (hS : ∀ k, k < B → ¬ S k) : KeepAt w' v ks := by
  rcases h with h | ⟨bk, ok, cap, rfl, hb, hc⟩
  · exact .inl h
  · refine .inr ⟨bk, ok, cap, rfl, Nat.lt_of_lt_of_le hb e.size, fun i b hi => ?_⟩
    rw [← hc i b hi]
    exact World.cell?_of_block (a := ⟨bk, ok + i, none⟩) (e.block bk hb (hS bk (hv ⟨bk, ok, none⟩ _ _ rfl)))
end Go.Proofs.Ytdhklomnaodcnaa
