/- Memory words of this seat's own: what a world keeps off a set of blocks, blocks known whole, slices that are owned. No condition. -/
import Derived.Handy
import Derived.WalkSpells
import Derived.WalkLawsBesides
import Derived.Lib.Hide
import Derived.Deep.Draws
namespace Go.Proofs.Ytdhklomnaodcnaa
open Go.RowKit

/-- Off S, what was there is as it was. -/
structure Ext (S : Nat → Prop) (w w' : World) : Prop where
  os : w'.os = w.os
  tape : w'.tape = w.tape
  output : w'.output = w.output
  size : w.heap.size ≤ w'.heap.size
  block : ∀ k, k < w.heap.size → ¬ S k → w'.heap[k]? = w.heap[k]?

/-- S, and what is new since w. -/
def Fsh (S : Nat → Prop) (w : World) : Nat → Prop := fun k => S k ∨ w.heap.size ≤ k
def NoB : Nat → Prop := fun _ => False

section
variable {S S' : Nat → Prop} {w w' w'' : World}
theorem Ext.refl (S : Nat → Prop) (w : World) : Ext S w w := ⟨rfl, rfl, rfl, Nat.le_refl _, fun _ _ _ => rfl⟩
theorem Ext.mono (h : Ext S w w') (hs : ∀ k, k < w.heap.size → S k → S' k) : Ext S' w w' := ⟨h.os, h.tape, h.output, h.size, fun k hk hn => h.block k hk (fun hx => hn (hs k hk hx))⟩
theorem Ext.trans (h : Ext S w w') (h' : Ext S' w' w'') (hs : ∀ k, k < w.heap.size → S' k → S k) : Ext S w w'' :=
  ⟨h'.os.trans h.os, h'.tape.trans h.tape, h'.output.trans h.output, Nat.le_trans h.size h'.size,
    fun k hk hn => (h'.block k (Nat.lt_of_lt_of_le hk h.size) (fun hx => hn (hs k hk hx))).trans (h.block k hk hn)⟩
theorem Ext.drew (h : Ext S w w') : Ext S w w'.drew := ⟨h.os, h.tape, h.output, h.size, h.block⟩
theorem Ext.drewN (h : Ext S w w') (n : Nat) : Ext S w (w'.drewN n) := ⟨h.os, h.tape, h.output, h.size, h.block⟩
theorem Ext.alloc (h : Ext S w w') (o : Obj) : Ext S w (w'.alloc o) :=
  ⟨h.os, h.tape, h.output, by simp; exact Nat.le_succ_of_le h.size, fun k hk hn => (Below.heap_alloc _ _ _ (Nat.lt_of_lt_of_le hk h.size)).trans (h.block k hk hn)⟩
theorem Ext.setCell (h : Ext S w w') {p : Addr} (u : Value) (hp : p.block < w.heap.size → S p.block) : Ext S w (w'.setCell p u) :=
  ⟨h.os, h.tape, h.output, by simp; exact h.size, fun k hk hn => by
    have hne : k ≠ p.block := fun e => hn (by subst e; exact hp hk)
    exact (Below.heap_setCell _ _ _ _ hne).trans (h.block k hk hn)⟩
theorem Ext.grown (h : Ext S w w') {row : Option Nat} (hg : w'.grownBy w'' row) (hr : ∀ k, row = some k → k < w.heap.size → S k) : Ext S w w'' :=
  h.trans ⟨hg.os, hg.tape, hg.output, hg.size, fun k hk hn => hg.block k hk (fun e => hn (show S k ∨ w.heap.size ≤ k from
    (Nat.lt_or_ge k w.heap.size).elim (fun hlt => .inl (hr k e.symm hlt)) .inr))⟩ (fun k hk hx => hx.elim id (fun h => absurd h (by omega)))
theorem Ext.below {B : Nat} (h : Ext S w w') (hB : B ≤ w.heap.size) (hS : ∀ k, k < B → ¬ S k) : Below B w w' :=
  ⟨h.os, h.tape, h.output, h.size, fun k hk => h.block k (Nat.lt_of_lt_of_le hk hB) (hS k hk)⟩
/-- Behind a callee that only makes memory. -/
theorem Ext.bel (h : Ext S w w') (h' : Below w'.heap.size w' w'') : Ext S w w'' :=
  h.trans ⟨h'.os, h'.tape, h'.output, h'.size, fun k hk _ => h'.block k hk⟩ (fun _ _ h => (h : False).elim) (S' := NoB)
theorem Ext.toBelow (h : Ext NoB w w') : Below w.heap.size w w' := ⟨h.os, h.tape, h.output, h.size, fun k hk => h.block k hk id⟩
theorem Ext.of_below {B : Nat} (h : Below B w w') (hS : ∀ k, B ≤ k → k < w.heap.size → S k) : Ext S w w' :=
  ⟨h.os, h.tape, h.output, h.size, fun k hk hn => h.block k (Nat.lt_of_not_ge fun hge => hn (hS k hge hk))⟩
end

/-- One step more, within S and what is new since w. -/
theorem Ext.fsh {S : Nat → Prop} {w w' w'' : World} (h : Ext S w w') (h' : Ext (Fsh S w) w' w'') : Ext S w w'' :=
  h.trans h' (fun _ hk hx => hx.elim id (fun h => absurd h (by omega)))
theorem Ext.no {S : Nat → Prop} {w w' : World} (h : Ext NoB w w') : Ext S w w' := h.mono (fun _ _ h => h.elim)
theorem Fsh.up {S : Nat → Prop} {w w' : World} (hs : w.heap.size ≤ w'.heap.size) : ∀ k, Fsh (Fsh S w) w' k → Fsh S w k :=
  fun _ hx => hx.elim id (fun h => .inr (Nat.le_trans hs h))
theorem Fsh.of {S : Nat → Prop} {w : World} : ∀ k, S k → Fsh S w k := fun _ h => .inl h

/-- A callee that leaves the world as it is, met in a region that only reads. -/
theorem quiet_w {P : Program} {f : FuncId} {args : Array Value} {w : World} {n : Nat} {v : Value}
    (h : Calls P f args (w.drewN n) fun e w' => e = .returned v ∧ w.drewN n = w') : Calls P f args (w.drewN n) fun e w'' => e = .returned v ∧ ∃ m, w'' = w.drewN m :=
  h.mono fun _ _ ⟨he, hm⟩ => ⟨he, n, hm.symm⟩
theorem Ext.ofDrew (w : World) (m : Nat) : Ext NoB w (w.drewN m) := (Ext.refl _ _).drewN m

/-- Block b: these cells, of this element type, none of them frozen. -/
def Blk (w : World) (b : Nat) (cs : List Value) (t : TypeId) : Prop := w.heap[b]? = some (.cells cs.toArray t (0, 0))
section
variable {w w' : World} {b : Nat} {cs : List Value} {t : TypeId}
theorem Blk.lt (h : Blk w b cs t) : b < w.heap.size := (Array.getElem?_eq_some_iff.1 h).1
theorem Blk.cell (h : Blk w b cs t) {i : Nat} {v : Value} (hv : cs[i]? = some v) : w.cell? ⟨b, i, none⟩ = some v := by
  simp [World.cell?, show w.heap[b]? = _ from h, hv]
theorem Blk.fr (h : Blk w b cs t) (i : Nat) : w.frozen? ⟨b, i, none⟩ = false := by
  simp only [World.frozen?, show w.heap[b]? = _ from h]; simp
theorem Blk.of (h : Blk w b cs t) (e : w'.heap[b]? = w.heap[b]?) : Blk w' b cs t := e.trans h
theorem Blk.ext {S : Nat → Prop} (h : Blk w b cs t) (e : Ext S w w') (hn : ¬ S b) : Blk w' b cs t := h.of (e.block b h.lt hn)
theorem Blk.alloc (h : Blk w b cs t) (o : Obj) : Blk (w.alloc o) b cs t := h.of (Below.heap_alloc _ _ _ h.lt)
theorem Blk.drew (h : Blk w b cs t) : Blk w.drew b cs t := h
theorem Blk.drewN (h : Blk w b cs t) (n : Nat) : Blk (w.drewN n) b cs t := h
theorem Blk.set (h : Blk w b cs t) (i : Nat) (v : Value) : Blk (w.setCell ⟨b, i, none⟩ v) b (cs.set i v) t := by
  have h' : w.heap[b]? = some (.cells cs.toArray t (0, 0)) := h
  simp [Blk, World.setCell, Array.getElem?_modify, h']
theorem Blk.far (h : Blk w b cs t) {p : Addr} (v : Value) (hne : b ≠ p.block) : Blk (w.setCell p v) b cs t := h.of (Below.heap_setCell _ _ _ _ hne)
theorem Blk.new (w : World) (cs : List Value) (t : TypeId) : Blk (w.alloc (.cells cs.toArray t)) w.heap.size cs t := heap_alloc_new w _
theorem Blk.grown {row : Option Nat} (h : Blk w b cs t) (hg : w.grownBy w' row) (hne : some b ≠ row) : Blk w' b cs t := h.of (hg.block b h.lt hne)
end

/-- The block that a slice value may write by an append. -/
def fp : Value → Option Nat
  | .slice (some a) _ cap => if cap = 0 then none else some a.block
  | _ => none

/-- A slice of n elements of size cells each, of the element type t, that holds the cells xs: nil, or without room, or at the head of a block of its own. -/
def Own (w : World) (v : Value) (t : TypeId) (size n : Nat) (xs : List Value) : Prop :=
  xs.length = n * size ∧
  ((∃ base, v = .slice base 0 0 ∧ n = 0) ∨
   ∃ g cap cur, v = .slice (some ⟨g, 0, none⟩) n cap ∧ Blk w g cur t ∧ 0 < cap ∧ n ≤ cap ∧ cap ≤ maxLen ∧ cur.length = cap * size ∧ cur.take (n * size) = xs)

section
variable {w w' : World} {v : Value} {t : TypeId} {size n : Nat} {xs : List Value}
theorem Own.nil (w : World) (t : TypeId) (size : Nat) : Own w (.slice none 0 0) t size 0 [] := ⟨by simp, .inl ⟨none, rfl, rfl⟩⟩
theorem Own.zero (w : World) (base : Option Addr) (t : TypeId) (size : Nat) : Own w (.slice base 0 0) t size 0 [] := ⟨by simp, .inl ⟨base, rfl, rfl⟩⟩
theorem Own.lt (h : Own w v t size n xs) {k : Nat} (hk : fp v = some k) : k < w.heap.size := by
  rcases h.2 with ⟨base, rfl, _⟩ | ⟨g, cap, cur, rfl, hb, hc, _⟩
  · cases base <;> simp [fp] at hk
  · simp [fp, Nat.ne_of_gt hc] at hk; subst hk; exact hb.lt
theorem Own.of (h : Own w v t size n xs) (e : ∀ k, fp v = some k → w'.heap[k]? = w.heap[k]?) : Own w' v t size n xs := by
  refine ⟨h.1, ?_⟩
  rcases h.2 with h2 | ⟨g, cap, cur, rfl, hb, hc, r⟩
  · exact .inl h2
  · exact .inr ⟨g, cap, cur, rfl, hb.of (e g (by simp [fp, Nat.ne_of_gt hc])), hc, r⟩
theorem Own.ext {S : Nat → Prop} (h : Own w v t size n xs) (e : Ext S w w') (hn : ∀ k, fp v = some k → ¬ S k) : Own w' v t size n xs :=
  h.of fun k hk => e.block k (h.lt hk) (hn k hk)
theorem Own.alloc (h : Own w v t size n xs) (o : Obj) : Own (w.alloc o) v t size n xs := h.of fun _ hk => Below.heap_alloc _ _ _ (h.lt hk)
theorem Own.drew (h : Own w v t size n xs) : Own w.drew v t size n xs := h
theorem Own.drewN (h : Own w v t size n xs) (m : Nat) : Own (w.drewN m) v t size n xs := h
theorem Own.far (h : Own w v t size n xs) {p : Addr} (u : Value) (hne : fp v ≠ some p.block) : Own (w.setCell p u) v t size n xs :=
  h.of fun k hk => Below.heap_setCell _ _ _ _ (fun e => hne (by rw [hk, e]))
theorem Own.shape (h : Own w v t size n xs) : ∃ base cap, v = .slice base n cap ∧ n ≤ cap ∧ cap ≤ maxLen := by
  rcases h.2 with ⟨base, rfl, rfl⟩ | ⟨g, cap, cur, rfl, _, _, hn, hm, _⟩
  · exact ⟨base, 0, rfl, Nat.le_refl _, Nat.zero_le _⟩
  · exact ⟨_, cap, rfl, hn, hm⟩
/-- Where there is an element the slice stands at the head of a block. -/
theorem Own.pos (h : Own w v t size n xs) (hn : 0 < n) : ∃ g cap cur, v = .slice (some ⟨g, 0, none⟩) n cap ∧ fp v = some g ∧ Blk w g cur t ∧ n ≤ cap ∧ cap ≤ maxLen ∧ cur.length = cap * size ∧ cur.take (n * size) = xs := by
  rcases h.2 with ⟨base, rfl, rfl⟩ | ⟨g, cap, cur, rfl, hb, hc, r⟩
  · omega
  · exact ⟨g, cap, cur, rfl, by simp [fp, Nat.ne_of_gt hc], hb, r⟩
/-- Its cells. -/
theorem Own.cell (h : Own w v t size n xs) {g : Nat} {l c : Nat} (hv : v = .slice (some ⟨g, 0, none⟩) l c) {i : Nat} {u : Value} (hu : xs[i]? = some u) : w.cell? ⟨g, i, none⟩ = some u := by
  subst hv
  rcases h.2 with ⟨base, e, rfl⟩ | ⟨g', cap, cur, e, hb, hc, hn, hm, hl, ht⟩
  · have := h.1; have := (List.getElem?_eq_some_iff.1 hu).1; omega
  · simp at e; obtain ⟨rfl, _, _⟩ := e
    refine hb.cell ?_
    rw [← ht, List.getElem?_take] at hu
    split at hu
    · exact hu
    · cases hu
theorem Own.fr (h : Own w v t size n xs) {g : Nat} {l c : Nat} (hv : v = .slice (some ⟨g, 0, none⟩) l c) (hn : 0 < n) (i : Nat) : w.frozen? ⟨g, i, none⟩ = false := by
  subst hv
  rcases h.2 with ⟨base, e, rfl⟩ | ⟨g', cap, cur, e, hb, _⟩
  · omega
  · simp at e; obtain ⟨rfl, _, _⟩ := e
    exact hb.fr i
/-- A store into one of its elements. -/
theorem Own.set (h : Own w v t size n xs) {g : Nat} {l c : Nat} (hv : v = .slice (some ⟨g, 0, none⟩) l c) {i : Nat} (hi : i < n * size) (u : Value) : Own (w.setCell ⟨g, i, none⟩ u) v t size n (xs.set i u) := by
  subst hv
  refine ⟨by simpa using h.1, ?_⟩
  rcases h.2 with ⟨base, e, rfl⟩ | ⟨g', cap, cur, e, hb, hc, hn, hm, hl, ht⟩
  · simp at hi
  · simp at e; obtain ⟨rfl, rfl, rfl⟩ := e
    exact .inr ⟨g, c, cur.set i u, rfl, hb.set i u, hc, hn, hm, by simpa using hl, by rw [← ht, List.take_set]⟩
end
end Go.Proofs.Ytdhklomnaodcnaa
