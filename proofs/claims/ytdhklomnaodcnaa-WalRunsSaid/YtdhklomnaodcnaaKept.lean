/- A map from numbers to texts that a call has made: what it holds, written out. No condition. -/
import Derived.Test.YtdhklomnaodcnaaMem
import Derived.Carry
import Derived.MapKept
namespace Go.Proofs.Ytdhklomnaodcnaa
open Go.RowKit Go.Instr

def ents : List (Nat × ByteArray) → Nat → List MapEntry
  | [], _ => []
  | p :: r, i => { key := .int .i64 p.1, val := .string p.2, born := i } :: ents r (i + 1)
theorem ents_length : ∀ (l : List (Nat × ByteArray)) (i : Nat), (ents l i).length = l.length
  | [], _ => rfl
  | _ :: r, i => by simp [ents, ents_length r (i + 1)]
theorem ents_snoc (p : Nat × ByteArray) : ∀ (l : List (Nat × ByteArray)) (i : Nat), ents (l ++ [p]) i = ents l i ++ [{ key := .int .i64 p.1, val := .string p.2, born := i + l.length }]
  | [], i => by simp [ents]
  | q :: r, i => by simp only [List.cons_append, ents, ents_snoc p r (i + 1), List.length_cons]; congr 4; omega
theorem find_ents (q : IntKind) (k : Nat) : ∀ (l : List (Nat × ByteArray)) (i j : Nat), ∃ r, findNow (.int q) (.int .i64 k) (ents l i) j = some r ∧ r.map (·.2) = (l.lookup k).map Value.string
  | [], _, _ => ⟨none, rfl, rfl⟩
  | p :: t, i, j => by
    by_cases h : k = p.1
    · subst h
      exact ⟨some (j, .string p.2), by simp [findNow, ents, sameNow], by simp [List.lookup]⟩
    · obtain ⟨r, h1, h2⟩ := find_ents q k t (i + 1) (j + 1)
      have hb : ((k : Int) == (p.1 : Int)) = false := by simp; omega
      have hb' : (k == p.1) = false := by simp [h]
      exact ⟨r, by simp [findNow, ents, sameNow, hb, h1], by simp [List.lookup, hb', h2]⟩

/-- Block b is that map. -/
def KeptAt (w : World) (b : Nat) (l : List (Nat × ByteArray)) : Prop := w.heap[b]? = some (.map (ents l 0).toArray l.length)
theorem KeptAt.lt {w : World} {b : Nat} {l : List (Nat × ByteArray)} (h : KeptAt w b l) : b < w.heap.size := (Array.getElem?_eq_some_iff.1 h).1
theorem KeptAt.ext {w w' : World} {b : Nat} {l : List (Nat × ByteArray)} {S : Nat → Prop} (h : KeptAt w b l) (e : Ext S w w') (hn : ¬ S b) : KeptAt w' b l := (e.block b h.lt hn).trans h

section
variable {P : Program} {w : World} {b : Nat} {l : List (Nat × ByteArray)} {t kt et : TypeId} {q : IntKind}
def World.kept (w : World) (b : Nat) (l : List (Nat × ByteArray)) : World := { w with heap := w.heap.setIfInBounds b (.map (ents l 0).toArray l.length) }
theorem KeptAt.put (h : KeptAt w b l) (l' : List (Nat × ByteArray)) : KeptAt (World.kept w b l') b l' := by
  have := h.lt
  simp [KeptAt, World.kept, this]
theorem Ext.kept {S : Nat → Prop} {w0 : World} (h : Ext S w0 w) (hb : b < w0.heap.size → S b) : Ext S w0 (World.kept w b l) := by
  refine ⟨h.os, h.tape, h.output, by simp [World.kept]; exact h.size, fun j hj hn => ?_⟩
  have hne : b ≠ j := fun e => hn (by subst e; exact hb hj)
  rw [← h.block j hj hn]
  simp [World.kept, Array.getElem?_setIfInBounds_ne hne]

theorem KeptAt.find (h : KeptAt w b l) (hk : P.underlying kt = some (.int q)) (k : Nat) : ∃ r, (findKey kt (.int .i64 k) (ents l 0)).run P w = .ok r w ∧ r.map (·.2) = (l.lookup k).map Value.string := by
  obtain ⟨r, h1, h2⟩ := find_ents q k l 0 0
  refine ⟨r, ?_, h2⟩
  unfold findKey
  simp [run_underlying hk, Result.andThen, h1]

theorem KeptAt.update (h : KeptAt w b l) (ht : P.underlying t = some (.map kt et)) (hk : P.underlying kt = some (.int .i64)) (k : Nat) (v : ByteArray) (hno : l.lookup k = none) :
    (mapUpdate t (.map (some b)) (.int .i64 k) (.string v)).run P w = .ok () (World.kept w b (l ++ [(k, v)])) := by
  obtain ⟨r, h1, h2⟩ := h.find (P := P) hk k
  rw [hno] at h2
  have hr : r = none := by cases r with
    | none => rfl
    | some x => simp at h2
  subst hr
  unfold mapUpdate
  simp only [Sem.run_bind, run_underlying ht, Result.andThen, Go.MapKept.run_getObj_map h, Go.MapKept.run_checkKey hk (show Go.MapKept.IsKey (.int .i64) (.int .i64 k) by simp [Go.MapKept.IsKey]), h1, Go.MapKept.run_setObj_map _ h]
  rw [World.kept, ents_snoc]
  simp

theorem KeptAt.lookup (h : KeptAt w b l) (ht : P.underlying t = some (.map kt et)) (hk : P.underlying kt = some (.int .i64)) (hz : (zeroValue et).run P w = .ok (.string ⟨#[]⟩) w) (k : Nat) :
    (Instr.lookup t (.map (some b)) (.int .i64 k) true).run P w = .ok (.tuple #[.string ((l.lookup k).getD ⟨#[]⟩), .bool (l.lookup k).isSome]) w := by
  obtain ⟨r, h1, h2⟩ := h.find (P := P) hk k
  unfold Instr.lookup
  simp only [Sem.run_bind, run_underlying ht, Result.andThen, Go.MapKept.run_getObj_map h, Go.MapKept.run_checkKey hk (show Go.MapKept.IsKey (.int .i64) (.int .i64 k) by simp [Go.MapKept.IsKey]), Sem.run_pure, h1]
  cases r with
  | none =>
    have : l.lookup k = none := by cases hl : l.lookup k with
      | none => rfl
      | some x => rw [hl] at h2; simp at h2
    simp [hz, this, Result.andThen]
  | some x =>
    cases hl : l.lookup k with
    | none => rw [hl] at h2; simp at h2
    | some y =>
      rw [hl] at h2
      simp only [Option.map_some, Option.some.injEq] at h2
      simp [h2]
end
end Go.Proofs.Ytdhklomnaodcnaa
