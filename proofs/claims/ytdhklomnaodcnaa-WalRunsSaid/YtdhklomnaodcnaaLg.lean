/- The log as plain data, and where it lies in memory. No program in sight. -/
import Derived.Test.YtdhklomnaodcnaaDk
import Derived.Test.YtdhklomnaodcnaaConv
namespace Go.Proofs.Ytdhklomnaodcnaa
open Go.RowKit

/-- A log: its ring, the places, the stream's bytes from start's sector on, the records. -/
structure Lg where
  first : Nat
  n : Nat
  start : Nat
  fin : Nat
  firm : Nat
  buf : List UInt8
  list : List (Nat × ByteArray)

def Lg.base (L : Lg) : Nat := L.start / 54 * 54

/-- The records stand one behind the other from s to e. -/
def Conts : Nat → List (Nat × ByteArray) → Nat → Prop
  | s, [], e => s = e
  | s, p :: r, e => p.1 = s ∧ 1 ≤ p.2.size ∧ p.2.size ≤ 65535 ∧ Conts (s + 2 + p.2.size) r e

structure Lg.Ok (L : Lg) : Prop where
  n1 : 128 ≤ L.n
  n2 : L.n ≤ 4096
  ring : L.first + L.n ≤ 5000
  s54 : 54 ≤ L.start
  sf : L.start ≤ L.firm
  ff : L.firm ≤ L.fin
  big : L.fin ≤ 4611686018427387904
  blen : L.base + L.buf.length = L.fin
  bcap : L.buf.length ≤ 54 * L.n
  chain : Conts L.start L.list L.fin

theorem Conts.le {l : List (Nat × ByteArray)} : ∀ {s e : Nat}, Conts s l e → s + 3 * l.length ≤ e := by
  induction l with
  | nil => intro s e h; simp [Conts] at h; simp; omega
  | cons p r ih =>
    intro s e h
    obtain ⟨_, h1, _, h2⟩ := h
    have := ih h2
    simp only [List.length_cons]; omega

theorem Conts.snoc {l : List (Nat × ByteArray)} : ∀ {s e : Nat} {r : ByteArray}, Conts s l e → 1 ≤ r.size → r.size ≤ 65535 → Conts s (l ++ [(e, r)]) (e + 2 + r.size) := by
  induction l with
  | nil => intro s e r h h1 h2; simp [Conts] at h; subst h; exact ⟨rfl, h1, h2, rfl⟩
  | cons p t ih =>
    intro s e r h h1 h2
    obtain ⟨a, b, c, d⟩ := h
    exact ⟨a, b, c, ih d h1 h2⟩

theorem Conts.lt {l : List (Nat × ByteArray)} : ∀ {s e : Nat}, Conts s l e → ∀ i (h : i < l.length), s + i ≤ l[i].1 ∧ l[i].1 + 2 < e := by
  induction l with
  | nil => intro s e h i hi; simp at hi
  | cons p r ih =>
    intro s e h i hi
    obtain ⟨a, b, c, d⟩ := h
    have hle := d.le
    cases i with
    | zero => simp; omega
    | succ i =>
      have := ih d i (by simpa using hi)
      simp only [List.getElem_cons_succ]; omega

/-- Their places go up. -/
theorem Conts.mono {l : List (Nat × ByteArray)} : ∀ {s e : Nat}, Conts s l e → ∀ i j (hi : i < l.length) (hj : j < l.length), i < j → l[i].1 < l[j].1 := by
  induction l with
  | nil => intro s e h i j hi; simp at hi
  | cons p r ih =>
    intro s e h i j hi hj hij
    obtain ⟨a, b, c, d⟩ := h
    cases j with
    | zero => omega
    | succ j =>
      cases i with
      | zero =>
        have := d.lt j (by simpa using hj)
        simp only [List.getElem_cons_zero, List.getElem_cons_succ]; omega
      | succ i => simpa using ih d i j (by simpa using hi) (by simpa using hj) (by omega)

theorem Lg.Ok.list_length {L : Lg} (h : L.Ok) : 3 * L.list.length ≤ 221184 := by
  have := h.chain.le
  have := h.blen
  have := h.bcap
  have := h.n2
  unfold Lg.base at *
  omega

def Lg.room (L : Lg) : Int := 54 * L.n - (L.fin - L.base)

/-- The program's log at block b (its device at block bd), all of it in blocks of F. -/
def LogAt (w : World) (b : Nat) (L : Lg) (bd : Nat) (F : Nat → Prop) : Prop :=
  ∃ vb vl, Blk w b [.pointer (some ⟨bd, 0, none⟩), .int .i64 L.first, .int .i64 L.n, .int .i64 L.start, .int .i64 L.fin, .int .i64 L.firm, .int .i64 L.base, vb, vl] 83 ∧
    Own w vb 5 1 L.buf.length (bytesV L.buf) ∧ Own w vl 86 2 L.list.length (softCells L.list) ∧
    F b ∧ (∀ k, fp vb = some k → F k ∧ k ≠ b) ∧ (∀ k, fp vl = some k → F k ∧ k ≠ b) ∧ (∀ k, fp vb = some k → fp vl ≠ some k)

theorem LogAt.mono {w : World} {b bd : Nat} {L : Lg} {F F' : Nat → Prop} (h : LogAt w b L bd F) (hF : ∀ k, k < w.heap.size → F k → F' k) : LogAt w b L bd F' := by
  obtain ⟨vb, vl, hb, h1, h2, fb, f1, f2, d⟩ := h
  exact ⟨vb, vl, hb, h1, h2, hF _ hb.lt fb, fun k hk => ⟨hF _ (h1.lt hk) (f1 k hk).1, (f1 k hk).2⟩, fun k hk => ⟨hF _ (h2.lt hk) (f2 k hk).1, (f2 k hk).2⟩, d⟩
theorem LogAt.ext {w w' : World} {b bd : Nat} {L : Lg} {F S : Nat → Prop} (h : LogAt w b L bd F) (e : Ext S w w') (hn : ∀ k, k < w.heap.size → F k → ¬ S k) : LogAt w' b L bd F := by
  obtain ⟨vb, vl, hb, h1, h2, fb, f1, f2, d⟩ := h
  exact ⟨vb, vl, hb.ext e (hn _ hb.lt fb), h1.ext e (fun k hk => hn k (h1.lt hk) (f1 k hk).1), h2.ext e (fun k hk => hn k (h2.lt hk) (f2 k hk).1), fb, f1, f2, d⟩
theorem LogAt.lt {w : World} {b bd : Nat} {L : Lg} {F : Nat → Prop} (h : LogAt w b L bd F) : b < w.heap.size := by
  obtain ⟨vb, vl, hb, _⟩ := h; exact hb.lt

/-- The reference's log. -/
def RLogAt (w : World) (b : Nat) (L : Lg) (bd : Nat) (F : Nat → Prop) : Prop :=
  ∃ vl, Blk w b [.pointer (some ⟨bd, 0, none⟩), .int .i64 L.first, .int .i64 L.n, .int .i64 L.start, .int .i64 L.fin, .int .i64 L.firm, .string ⟨L.buf.toArray⟩, vl] 60 ∧
    Own w vl 86 2 L.list.length (softCells L.list) ∧ F b ∧ (∀ k, fp vl = some k → F k ∧ k ≠ b)

theorem RLogAt.mono {w : World} {b bd : Nat} {L : Lg} {F F' : Nat → Prop} (h : RLogAt w b L bd F) (hF : ∀ k, k < w.heap.size → F k → F' k) : RLogAt w b L bd F' := by
  obtain ⟨vl, hb, h2, fb, f2⟩ := h
  exact ⟨vl, hb, h2, hF _ hb.lt fb, fun k hk => ⟨hF _ (h2.lt hk) (f2 k hk).1, (f2 k hk).2⟩⟩
theorem RLogAt.ext {w w' : World} {b bd : Nat} {L : Lg} {F S : Nat → Prop} (h : RLogAt w b L bd F) (e : Ext S w w') (hn : ∀ k, k < w.heap.size → F k → ¬ S k) : RLogAt w' b L bd F := by
  obtain ⟨vl, hb, h2, fb, f2⟩ := h
  exact ⟨vl, hb.ext e (hn _ hb.lt fb), h2.ext e (fun k hk => hn k (h2.lt hk) (f2 k hk).1), fb, f2⟩
theorem RLogAt.lt {w : World} {b bd : Nat} {L : Lg} {F : Nat → Prop} (h : RLogAt w b L bd F) : b < w.heap.size := by
  obtain ⟨vl, hb, _⟩ := h; exact hb.lt

/-- A record more. -/
def Lg.add (L : Lg) (r : ByteArray) : Lg := ⟨L.first, L.n, L.start, L.fin + (2 + r.size), L.firm, L.buf ++ le 2 r.size ++ r.data.toList, L.list ++ [(L.fin, r)]⟩
def Lg.append (L : Lg) (r : ByteArray) : (Int × Int) × Lg :=
  if r.size = 0 then ((0, 1), L) else if 65535 < r.size then ((0, 2), L) else if L.room < 2 + (r.size : Int) then ((0, 70), L) else ((L.fin, 0), L.add r)

theorem Lg.add_Ok {L : Lg} (h : L.Ok) (r : ByteArray) (h1 : 1 ≤ r.size) (h2 : r.size ≤ 65535) (h3 : 2 + (r.size : Int) ≤ L.room) (hb : L.fin ≤ 4611686018427300000) : (L.add r).Ok := by
  obtain ⟨a, b, c, d, e, f, g, i, j, k⟩ := h
  have hs : r.data.toList.length = r.size := by rw [Array.length_toList]; rfl
  have hr : 2 + (r.size : Int) ≤ 54 * (L.n : Int) - ((L.fin : Int) - (L.start / 54 * 54 : Nat)) := h3
  have i' : L.start / 54 * 54 + L.buf.length = L.fin := i
  refine ⟨a, b, c, d, e, ?_, ?_, ?_, ?_, ?_⟩
  · show L.firm ≤ L.fin + (2 + r.size); omega
  · show L.fin + (2 + r.size) ≤ _; omega
  · show L.start / 54 * 54 + (L.buf ++ le 2 r.size ++ r.data.toList).length = L.fin + (2 + r.size)
    rw [List.length_append, List.length_append, le_length, hs]; omega
  · show (L.buf ++ le 2 r.size ++ r.data.toList).length ≤ 54 * L.n
    rw [List.length_append, List.length_append, le_length, hs]; omega
  · show Conts L.start (L.list ++ [(L.fin, r)]) (L.fin + (2 + r.size))
    rw [← Nat.add_assoc]
    exact k.snoc h1 h2

/-! ### Writing into the log's struct -/
theorem LogAt.putBuf {w w2 : World} {b bd : Nat} {L : Lg} {F : Nat → Prop} {vb vl v' : Value} {buf' : List UInt8}
    (hb : Blk w b [.pointer (some ⟨bd, 0, none⟩), .int .i64 L.first, .int .i64 L.n, .int .i64 L.start, .int .i64 L.fin, .int .i64 L.firm, .int .i64 L.base, vb, vl] 83)
    (h2 : Own w vl 86 2 L.list.length (softCells L.list)) (fb : F b) (f1 : ∀ k, fp vb = some k → F k ∧ k ≠ b) (f2 : ∀ k, fp vl = some k → F k ∧ k ≠ b) (d : ∀ k, fp vb = some k → fp vl ≠ some k)
    (hO : Own w2 v' 5 1 buf'.length (bytesV buf')) (hE : Ext (fun k => fp vb = some k) w w2) (hF : ∀ k, fp v' = some k → fp vb = some k ∨ w.heap.size ≤ k) :
    LogAt (w2.setCell ⟨b, 7, none⟩ v') b { L with buf := buf' } bd (Fsh F w) ∧ Ext F w (w2.setCell ⟨b, 7, none⟩ v') := by
  have hlt := hb.lt
  have hne : ∀ k, fp v' = some k → k ≠ b := fun k hk e => by
    rcases hF k hk with h | h
    · exact (f1 k h).2 e
    · omega
  have B2 := (hb.ext hE (fun e => (f1 b e).2 rfl)).set 7 v'
  have O2 := (h2.ext hE (fun k hk hx => d k hx hk)).far (p := ⟨b, 7, none⟩) v' (fun e => (f2 b e).2 rfl)
  refine ⟨⟨v', vl, B2, hO.far _ (fun e => hne b e rfl), O2, .inl fb, fun k hk => ⟨?_, hne k hk⟩, fun k hk => ⟨.inl (f2 k hk).1, (f2 k hk).2⟩, fun k hk e => ?_⟩, ?_⟩
  · rcases hF k hk with h | h
    · exact .inl (f1 k h).1
    · exact .inr h
  · rcases hF k hk with h | h
    · exact d k h e
    · have := h2.lt e; omega
  · exact (((Ext.refl F w).trans hE (fun k _ hk => (f1 k hk).1))).setCell _ (fun _ => fb)

theorem LogAt.putList {w w2 : World} {b bd : Nat} {L : Lg} {F : Nat → Prop} {vb vl v' : Value} {list' : List (Nat × ByteArray)}
    (hb : Blk w b [.pointer (some ⟨bd, 0, none⟩), .int .i64 L.first, .int .i64 L.n, .int .i64 L.start, .int .i64 L.fin, .int .i64 L.firm, .int .i64 L.base, vb, vl] 83)
    (h1 : Own w vb 5 1 L.buf.length (bytesV L.buf)) (fb : F b) (f1 : ∀ k, fp vb = some k → F k ∧ k ≠ b) (f2 : ∀ k, fp vl = some k → F k ∧ k ≠ b) (d : ∀ k, fp vb = some k → fp vl ≠ some k)
    (hO : Own w2 v' 86 2 list'.length (softCells list')) (hE : Ext (fun k => fp vl = some k) w w2) (hF : ∀ k, fp v' = some k → fp vl = some k ∨ w.heap.size ≤ k) :
    LogAt (w2.setCell ⟨b, 8, none⟩ v') b { L with list := list' } bd (Fsh F w) ∧ Ext F w (w2.setCell ⟨b, 8, none⟩ v') := by
  have hlt := hb.lt
  have hne : ∀ k, fp v' = some k → k ≠ b := fun k hk e => by
    rcases hF k hk with h | h
    · exact (f2 k h).2 e
    · omega
  have B2 := (hb.ext hE (fun e => (f2 b e).2 rfl)).set 8 v'
  have O1 := (h1.ext hE (fun k hk hx => d k hk hx)).far (p := ⟨b, 8, none⟩) v' (fun e => (f1 b e).2 rfl)
  refine ⟨⟨vb, v', B2, O1, hO.far _ (fun e => hne b e rfl), .inl fb, fun k hk => ⟨.inl (f1 k hk).1, (f1 k hk).2⟩, fun k hk => ⟨?_, hne k hk⟩, fun k hk e => ?_⟩, ?_⟩
  · rcases hF k hk with h | h
    · exact .inl (f2 k h).1
    · exact .inr h
  · rcases hF k e with h | h
    · exact d k hk h
    · have := h1.lt hk; omega
  · exact (((Ext.refl F w).trans hE (fun k _ hk => (f2 k hk).1))).setCell _ (fun _ => fb)

theorem LogAt.putFin {w : World} {b bd : Nat} {L : Lg} {F : Nat → Prop} (h : LogAt w b L bd F) (m : Nat) :
    LogAt (w.setCell ⟨b, 4, none⟩ (.int .i64 m)) b { L with fin := m } bd F ∧ Ext F w (w.setCell ⟨b, 4, none⟩ (.int .i64 m)) := by
  obtain ⟨vb, vl, hb, h1, h2, fb, f1, f2, d⟩ := h
  exact ⟨⟨vb, vl, hb.set 4 _, h1.far _ (fun e => (f1 _ e).2 rfl), h2.far _ (fun e => (f2 _ e).2 rfl), fb, f1, f2, d⟩, (Ext.refl F w).setCell _ (fun _ => fb)⟩
theorem LogAt.putFirm {w : World} {b bd : Nat} {L : Lg} {F : Nat → Prop} (h : LogAt w b L bd F) (m : Nat) :
    LogAt (w.setCell ⟨b, 5, none⟩ (.int .i64 m)) b { L with firm := m } bd F ∧ Ext F w (w.setCell ⟨b, 5, none⟩ (.int .i64 m)) := by
  obtain ⟨vb, vl, hb, h1, h2, fb, f1, f2, d⟩ := h
  exact ⟨⟨vb, vl, hb.set 5 _, h1.far _ (fun e => (f1 _ e).2 rfl), h2.far _ (fun e => (f2 _ e).2 rfl), fb, f1, f2, d⟩, (Ext.refl F w).setCell _ (fun _ => fb)⟩

theorem RLogAt.putBuf {w : World} {b bd : Nat} {L : Lg} {F : Nat → Prop} (h : RLogAt w b L bd F) (buf' : List UInt8) :
    RLogAt (w.setCell ⟨b, 6, none⟩ (.string ⟨buf'.toArray⟩)) b { L with buf := buf' } bd F ∧ Ext F w (w.setCell ⟨b, 6, none⟩ (.string ⟨buf'.toArray⟩)) := by
  obtain ⟨vl, hb, h2, fb, f2⟩ := h
  exact ⟨⟨vl, hb.set 6 _, h2.far _ (fun e => (f2 _ e).2 rfl), fb, f2⟩, (Ext.refl F w).setCell _ (fun _ => fb)⟩
theorem RLogAt.putFin {w : World} {b bd : Nat} {L : Lg} {F : Nat → Prop} (h : RLogAt w b L bd F) (m : Nat) :
    RLogAt (w.setCell ⟨b, 4, none⟩ (.int .i64 m)) b { L with fin := m } bd F ∧ Ext F w (w.setCell ⟨b, 4, none⟩ (.int .i64 m)) := by
  obtain ⟨vl, hb, h2, fb, f2⟩ := h
  exact ⟨⟨vl, hb.set 4 _, h2.far _ (fun e => (f2 _ e).2 rfl), fb, f2⟩, (Ext.refl F w).setCell _ (fun _ => fb)⟩
theorem RLogAt.putFirm {w : World} {b bd : Nat} {L : Lg} {F : Nat → Prop} (h : RLogAt w b L bd F) (m : Nat) :
    RLogAt (w.setCell ⟨b, 5, none⟩ (.int .i64 m)) b { L with firm := m } bd F ∧ Ext F w (w.setCell ⟨b, 5, none⟩ (.int .i64 m)) := by
  obtain ⟨vl, hb, h2, fb, f2⟩ := h
  exact ⟨⟨vl, hb.set 5 _, h2.far _ (fun e => (f2 _ e).2 rfl), fb, f2⟩, (Ext.refl F w).setCell _ (fun _ => fb)⟩
theorem RLogAt.putStart {w : World} {b bd : Nat} {L : Lg} {F : Nat → Prop} (h : RLogAt w b L bd F) (m : Nat) :
    RLogAt (w.setCell ⟨b, 3, none⟩ (.int .i64 m)) b { L with start := m } bd F ∧ Ext F w (w.setCell ⟨b, 3, none⟩ (.int .i64 m)) := by
  obtain ⟨vl, hb, h2, fb, f2⟩ := h
  exact ⟨⟨vl, hb.set 3 _, h2.far _ (fun e => (f2 _ e).2 rfl), fb, f2⟩, (Ext.refl F w).setCell _ (fun _ => fb)⟩
theorem RLogAt.putList {w w2 : World} {b bd : Nat} {L : Lg} {F : Nat → Prop} {vl v' : Value} {list' : List (Nat × ByteArray)}
    (hb : Blk w b [.pointer (some ⟨bd, 0, none⟩), .int .i64 L.first, .int .i64 L.n, .int .i64 L.start, .int .i64 L.fin, .int .i64 L.firm, .string ⟨L.buf.toArray⟩, vl] 60)
    (fb : F b) (f2 : ∀ k, fp vl = some k → F k ∧ k ≠ b)
    (hO : Own w2 v' 86 2 list'.length (softCells list')) (hE : Ext (fun k => fp vl = some k) w w2) (hF : ∀ k, fp v' = some k → fp vl = some k ∨ w.heap.size ≤ k) :
    RLogAt (w2.setCell ⟨b, 7, none⟩ v') b { L with list := list' } bd (Fsh F w) ∧ Ext F w (w2.setCell ⟨b, 7, none⟩ v') := by
  have hlt := hb.lt
  have hne : ∀ k, fp v' = some k → k ≠ b := fun k hk e => by
    rcases hF k hk with h | h
    · exact (f2 k h).2 e
    · omega
  have B2 := (hb.ext hE (fun e => (f2 b e).2 rfl)).set 7 v'
  refine ⟨⟨v', B2, hO.far _ (fun e => hne b e rfl), .inl fb, fun k hk => ⟨?_, hne k hk⟩⟩, ?_⟩
  · rcases hF k hk with h | h
    · exact .inl (f2 k h).1
    · exact .inr h
  · exact (((Ext.refl F w).trans hE (fun k _ hk => (f2 k hk).1))).setCell _ (fun _ => fb)

/-! ### Cutting -/
/-- From the place a on, that is record number k's. -/
def Lg.cutAt (L : Lg) (a k : Nat) : Lg := ⟨L.first, L.n, a, L.fin, L.firm, L.buf.drop (a / 54 * 54 - L.base), L.list.drop k⟩
/-- a is a place to cut at: that of record number k, or the end. -/
def Lg.CutOk (L : Lg) (a k : Nat) : Prop := a ≤ L.firm ∧ ((a = L.fin ∧ k = L.list.length) ∨ ∃ h : k < L.list.length, L.list[k].1 = a)
theorem Conts.drop {l : List (Nat × ByteArray)} : ∀ {s e : Nat}, Conts s l e → ∀ k (h : k < l.length), Conts l[k].1 (l.drop k) e := by
  induction l with
  | nil => intro s e h k hk; simp at hk
  | cons p r ih =>
    intro s e h k hk
    cases k with
    | zero => obtain ⟨a, b, c, d⟩ := h; simp only [List.drop_zero, List.getElem_cons_zero]; exact ⟨rfl, b, c, by rw [a]; exact d⟩
    | succ k => simpa using ih h.2.2.2 k (by simpa using hk)
theorem Lg.CutOk.ge {L : Lg} (h : L.Ok) {a k : Nat} (hc : L.CutOk a k) : L.start ≤ a ∧ a ≤ L.fin := by
  have h1 := h.sf; have h2 := h.ff
  rcases hc.2 with ⟨rfl, _⟩ | ⟨hk, e⟩
  · omega
  · have := h.chain.lt k hk; omega
theorem Lg.cutAt_Ok {L : Lg} (h : L.Ok) {a k : Nat} (hc : L.CutOk a k) : (L.cutAt a k).Ok := by
  have hg := hc.ge h
  obtain ⟨h1, h2, h3, h4, h5, h6, h7, h8, h9, h10⟩ := h
  have h8' : L.start / 54 * 54 + L.buf.length = L.fin := h8
  refine ⟨h1, h2, h3, ?_, hc.1, h6, h7, ?_, ?_, ?_⟩
  · show 54 ≤ a; omega
  · show a / 54 * 54 + (L.buf.drop (a / 54 * 54 - L.start / 54 * 54)).length = L.fin
    rw [List.length_drop]; omega
  · show (L.buf.drop (a / 54 * 54 - L.start / 54 * 54)).length ≤ 54 * L.n
    rw [List.length_drop]; omega
  · show Conts a (L.list.drop k) L.fin
    rcases hc.2 with ⟨rfl, rfl⟩ | ⟨hk, e⟩
    · rw [List.drop_length]; rfl
    · rw [← e]; exact h10.drop k hk
end Go.Proofs.Ytdhklomnaodcnaa
