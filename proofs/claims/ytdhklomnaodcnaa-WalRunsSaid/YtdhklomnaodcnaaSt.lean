/- What each call leaves of the log's and the device's care; the two systems side by side in memory, and what each call makes of them. -/
import Derived.Test.YtdhklomnaodcnaaCr
import Derived.Test.YtdhklomnaodcnaaLaw1
import Derived.Test.YtdhklomnaodcnaaDk3
import Derived.Test.YtdhklomnaodcnaaOpen
import Derived.Test.YtdhklomnaodcnaaROpen
import Derived.Test.YtdhklomnaodcnaaRCut
import Derived.Test.YtdhklomnaodcnaaCut
import Derived.Test.YtdhklomnaodcnaaCut2
import Derived.Test.YtdhklomnaodcnaaRFlush
import Derived.Test.YtdhklomnaodcnaaFlush
import Derived.Test.YtdhklomnaodcnaaRd3
import Derived.Test.YtdhklomnaodcnaaRd4
import Derived.Test.YtdhklomnaodcnaaDk5

namespace Go.Proofs.Ytdhklomnaodcnaa
open Go.RowKit

/-- Few writes are pending; none, where the device is not down. -/
def Dk.Calm (D : Dk) : Prop := D.soft.length ≤ 5000 ∧ (D.down = true ∨ D.soft = [])

theorem Dk.fresh_Ok {S : List ByteArray} (h1 : S.length ≤ 5000) (h2 : ∀ s ∈ S, s.size = 64) : (Dk.fresh S).Ok :=
  ⟨by simp [Dk.fresh], by simp [Dk.fresh], h1, by simp [Dk.fresh], h2, by simp [Dk.fresh]⟩
theorem keepStep_64 (ps : List ((Nat × ByteArray) × Bool)) : ∀ l : List ByteArray, (∀ s ∈ l, s.size = 64) → (∀ p ∈ ps, p.1.2.size = 64) → ∀ s ∈ ps.foldl keepStep l, s.size = 64 := by
  induction ps with
  | nil => intro l h _; exact h
  | cons p ps ih =>
    intro l h hp
    rw [List.foldl_cons]
    refine ih _ ?_ (fun q hq => hp q (List.mem_cons_of_mem _ hq))
    intro s hs
    unfold keepStep at hs
    split at hs
    · rcases List.mem_or_eq_of_mem_set hs with h' | h'
      · exact h s h'
      · rw [h']; exact hp p List.mem_cons_self
    · exact h s hs
theorem Dk.crash_Ok {D : Dk} (h : D.Ok) (ks : List Bool) : (D.crash ks).Ok ∧ (D.crash ks).firm.length = D.firm.length := by
  have hl : (D.crash ks).firm.length = D.firm.length := by unfold Dk.crash Dk.fresh; exact keepStep_length _ _
  refine ⟨?_, hl⟩
  unfold Dk.crash
  refine Dk.fresh_Ok ?_ ?_
  · have := h.len
    have : (D.crash ks).firm.length ≤ 5000 := by omega
    exact this
  · refine keepStep_64 _ _ h.firm64 (fun p hp => (h.soft64 p.1 ?_).1)
    exact (List.of_mem_zip hp).1
theorem Lg.wipes_good (L : Lg) : ∀ (m i : Nat) (D : Dk), D.Ok → D.down = false → D.fuel = -1 → L.first + i + m ≤ D.firm.length → D.soft.length + m ≤ 1000000 →
    (L.wipes m i D).Ok ∧ (L.wipes m i D).down = false ∧ (L.wipes m i D).fuel = -1 ∧ (L.wipes m i D).firm.length = D.firm.length := by
  intro m
  induction m with
  | zero => intro i D h1 h2 h3 _ _; exact ⟨h1, h2, h3, rfl⟩
  | succ m ih =>
    intro i D h1 h2 h3 h4 h5
    rw [Lg.wipes_succ]
    split
    · exact ih (i + 1) D h1 h2 h3 (by omega) (by omega)
    · have hw := Dk.write_Ok h1 ((L.first + i : Nat) : Int) (L.want i) (by omega)
      rw [Dk.write_put h2 h3 (by omega) (L.want_size i)] at hw
      obtain ⟨k1, k2, k3⟩ := hw
      dsimp only at k1 k2 k3
      obtain ⟨g1, g2, g3, g4⟩ := ih (i + 1) _ k1 h2 (Dk.put_free h3 _ _) (by omega) (by omega)
      exact ⟨g1, g2, g3, g4.trans k2⟩
theorem Dk.flat_calm {D : Dk} (h : D.Ok) : D.flat.Ok ∧ D.flat.firm.length = D.firm.length ∧ D.flat.Calm :=
  ⟨Dk.flat_Ok h, D.seen_length, by simp [Dk.Calm, Dk.flat]⟩
theorem reopened_good {L : Lg} {D : Dk} (h1 : D.Ok) (h2 : D.down = false) (h3 : D.fuel = -1) (h4 : L.first + L.n ≤ D.firm.length) (h5 : D.soft = []) (hn : L.n ≤ 4096) :
    ((L.wipes L.n 0 D).flat).Ok ∧ ((L.wipes L.n 0 D).flat).firm.length = D.firm.length ∧ ((L.wipes L.n 0 D).flat).Calm := by
  obtain ⟨g1, g2, g3, g4⟩ := L.wipes_good L.n 0 D h1 h2 h3 (by omega) (by rw [h5]; simp; omega)
  obtain ⟨k1, k2, k3⟩ := Dk.flat_calm g1
  exact ⟨k1, k2.trans g4, k3⟩
theorem opened_fin (S : List ByteArray) (first n start : Nat) (hn : n ≤ 4096) : (opened S first n start).fin ≤ start + 221184 := by
  obtain ⟨p1, p2, p3⟩ := parse_spec (rawBuf S first n start) (start / 54 * 54) (rawBuf S first n start).length start (by omega)
  have hg : (rawBuf S first n start).length ≤ 54 * n := gather_le S first n n (start / 54)
  show (parse (rawBuf S first n start) (start / 54 * 54) (rawBuf S first n start).length start).2 ≤ _
  omega
theorem Dk.write_calm {D : Dk} (hd : D.down = false) {j : Nat} (hj : j < D.firm.length) {s : ByteArray} (hs : s.size = 64) :
    ((D.write (j : Int) s).1 = 0 → (D.write (j : Int) s).2.down = false) ∧ ((D.write (j : Int) s).1 ≠ 0 → (D.write (j : Int) s).2.down = true) := by
  unfold Dk.write
  rw [if_neg (by simp [hd]), if_neg (by rw [hs]; omega)]
  split
  · exact ⟨fun h => by simp at h, fun _ => rfl⟩
  · exact ⟨fun _ => hd, fun h => absurd rfl h⟩
theorem Lg.writes_calm (L : Lg) (hn : 0 < L.n) : ∀ (m i : Nat) (D : Dk), D.Ok → D.soft.length + m ≤ 1000000 → D.down = false → L.first + L.n ≤ D.firm.length →
    ((L.writes m i D).1 = 0 → (L.writes m i D).2.down = false) ∧ ((L.writes m i D).1 ≠ 0 → (L.writes m i D).2.down = true) := by
  intro m
  induction m with
  | zero => intro i D _ _ h _; exact ⟨fun _ => h, fun h' => absurd rfl h'⟩
  | succ m ih =>
    intro i D h1 h2 h3 h4
    have hmod := Nat.mod_lt i hn
    obtain ⟨g1, g2⟩ := Dk.write_calm h3 (j := L.first + i % L.n) (s := L.sect i) (by omega) (L.sect_size i)
    obtain ⟨k1, k2, k3⟩ := Dk.write_Ok h1 ((L.first + i % L.n : Nat) : Int) (L.sect i) (by omega)
    rw [Lg.writes_succ]
    split
    · rename_i h
      exact ih (i + 1) _ k1 (by omega) (g1 h) (by omega)
    · rename_i h
      exact ⟨fun h' => absurd h' h, fun _ => g2 h⟩
theorem Dk.barrier_down {D : Dk} (hd : D.down = true) : D.barrier = (20, D) := by unfold Dk.barrier; rw [if_pos hd]
theorem Dk.write_down {D : Dk} (hd : D.down = true) (i : Int) (s : ByteArray) : D.write i s = (20, D) := by unfold Dk.write; rw [if_pos hd]
theorem Lg.writes_down (L : Lg) {D : Dk} (hd : D.down = true) (m i : Nat) : (L.writes m i D).2 = D := by
  cases m with
  | zero => rfl
  | succ m => rw [Lg.writes_succ, Dk.write_down hd]; rw [if_neg (by show ¬ ((20 : Int) = 0); decide)]
theorem Lg.flush_good {L : Lg} {D : Dk} (hL : L.Ok) (hD : D.Ok) (hc : D.Calm) (hr : L.first + L.n ≤ D.firm.length) (t : Int) :
    (L.flush D t).2.1.Ok ∧ (L.flush D t).2.1.first = L.first ∧ (L.flush D t).2.1.n = L.n ∧ (L.flush D t).2.1.fin = L.fin ∧ (L.flush D t).2.2.Ok ∧ (L.flush D t).2.2.firm.length = D.firm.length ∧ (L.flush D t).2.2.Calm := by
  have hlf : L.left (L.firm / 54) ≤ 4097 := L.left_le hL (by have := hL.sf; show L.start / 54 * 54 ≤ _; omega)
  obtain ⟨w1, w2, w3⟩ := L.writes_Ok (L.left (L.firm / 54)) (L.firm / 54) D hD (by have := hc.1; omega)
  unfold Lg.flush
  split
  · exact ⟨hL, rfl, rfl, rfl, hD, rfl, hc⟩
  · by_cases hdn : D.down = true
    · have e1 := L.writes_down hdn (L.left (L.firm / 54)) (L.firm / 54)
      split
      · rw [e1]; exact ⟨hL, rfl, rfl, rfl, hD, rfl, hc⟩
      · split
        · rw [e1, Dk.barrier_down hdn]; exact ⟨hL, rfl, rfl, rfl, hD, rfl, hc⟩
        · rw [e1, Dk.barrier_down hdn]; exact ⟨Lg.firm_Ok hL, rfl, rfl, rfl, hD, rfl, hc⟩
    · have hdn' : D.down = false := by simpa using hdn
      have hs : D.soft = [] := hc.2.resolve_left hdn
      have hsl : D.soft.length = 0 := by rw [hs]; rfl
      obtain ⟨c1, c2⟩ := L.writes_calm (by have := hL.n1; omega) (L.left (L.firm / 54)) (L.firm / 54) D hD (by omega) hdn' hr
      obtain ⟨b1, b2, b3⟩ := Dk.barrier_Ok w1
      split
      · rename_i h
        exact ⟨hL, rfl, rfl, rfl, w1, w2, by show (L.writes (L.left (L.firm / 54)) (L.firm / 54) D).2.soft.length ≤ 5000; omega, .inl (c2 h)⟩
      · rename_i h
        have hz : (L.writes (L.left (L.firm / 54)) (L.firm / 54) D).1 = 0 := by omega
        have hbc : (L.writes (L.left (L.firm / 54)) (L.firm / 54) D).2.barrier.2.Calm := by
          unfold Dk.barrier
          rw [if_neg (by rw [c1 hz]; decide)]
          split
          · exact ⟨by show (L.writes (L.left (L.firm / 54)) (L.firm / 54) D).2.soft.length ≤ 5000; omega, .inl rfl⟩
          · exact ⟨by simp [Dk.flat], .inr rfl⟩
        split
        · exact ⟨hL, rfl, rfl, rfl, b1, b2.trans w2, hbc⟩
        · exact ⟨Lg.firm_Ok hL, rfl, rfl, rfl, b1, b2.trans w2, hbc⟩
theorem Lg.append_good {L : Lg} (hL : L.Ok) (r : ByteArray) (hb : L.fin ≤ 4611686018427300000) : (L.append r).2.Ok ∧ (L.append r).2.first = L.first ∧ (L.append r).2.n = L.n ∧ (L.append r).2.fin ≤ L.fin + 65538 := by
  unfold Lg.append
  split
  · exact ⟨hL, rfl, rfl, by show L.fin ≤ _; omega⟩
  · split
    · exact ⟨hL, rfl, rfl, by show L.fin ≤ _; omega⟩
    · split
      · exact ⟨hL, rfl, rfl, by show L.fin ≤ _; omega⟩
      · exact ⟨Lg.add_Ok hL r (by omega) (by omega) (by omega) hb, rfl, rfl, by show L.fin + (2 + r.size) ≤ _; omega⟩
theorem Dk.fueled_good {D : Dk} (hD : D.Ok) (hc : D.Calm) (n : Int) (h : n ≤ 9223372036854775807) : (D.fueled n).Ok ∧ (D.fueled n).firm.length = D.firm.length ∧ (D.fueled n).Calm := by
  obtain ⟨h1, h2, h3, h4, h5, h6⟩ := hD
  refine ⟨⟨?_, ?_, h3, h4, h5, h6⟩, rfl, hc⟩
  · show -1 ≤ max n (-1); omega
  · show max n (-1) ≤ _; omega
theorem Lg.place_bound {L : Lg} (hL : L.Ok) (t : Int) (raw : Bool) (h0 : -9223372036854775808 ≤ t) (h1 : t ≤ 9223372036854775807) : -9223372036854775808 ≤ L.place t raw ∧ L.place t raw ≤ 9223372036854775807 := by
  have hb := hL.big
  unfold Lg.place
  split
  · rename_i h
    have hk : t.toNat < L.list.length := by omega
    have := (hL.chain.lt t.toNat hk).2
    rw [List.getD_eq_getElem?_getD, List.getElem?_eq_getElem hk]
    show _ ≤ ((L.list[t.toNat].1 : Nat) : Int) ∧ ((L.list[t.toNat].1 : Nat) : Int) ≤ _
    omega
  · split
    · omega
    · exact ⟨h0, h1⟩
end Go.Proofs.Ytdhklomnaodcnaa

namespace Go.Proofs.Ytdhklomnaodcnaa
open Go.RowKit

def Off (A B : Nat → Prop) : Prop := ∀ k, A k → ¬ B k
theorem Off.symm {A B : Nat → Prop} (h : Off A B) : Off B A := fun k hb ha => h k ha hb
/-- F, as far as it was there in w. -/
def Lt (F : Nat → Prop) (w : World) : Nat → Prop := fun k => F k ∧ k < w.heap.size
theorem Off.lt {A B : Nat → Prop} (h : Off A B) (w : World) : Off (Lt A w) (Lt B w) := fun k ha hb => h k ha.1 hb.1
theorem Off.fshL {A B : Nat → Prop} (h : Off A B) (w : World) : Off (Fsh A w) (Lt B w) := fun k ha hb => ha.elim (fun ha => h k ha hb.1) (fun ha => by have := hb.2; omega)
theorem Off.fshR {A B : Nat → Prop} (h : Off A B) (w : World) : Off (Lt A w) (Fsh B w) := (h.symm.fshL w).symm

theorem LogAt.keep {w w' : World} {b bd : Nat} {L : Lg} {F S : Nat → Prop} (h : LogAt w b L bd F) (e : Ext S w w') (o : Off F S) : LogAt w' b L bd (Lt F w) :=
  (h.mono (F' := Lt F w) (fun _ hk h => ⟨h, hk⟩)).ext e (fun k _ h => o k h.1)
theorem RLogAt.keep {w w' : World} {b bd : Nat} {L : Lg} {F S : Nat → Prop} (h : RLogAt w b L bd F) (e : Ext S w w') (o : Off F S) : RLogAt w' b L bd (Lt F w) :=
  (h.mono (F' := Lt F w) (fun _ hk h => ⟨h, hk⟩)).ext e (fun k _ h => o k h.1)
theorem DiskAt.keep {w w' : World} {b : Nat} {D : Dk} {F S : Nat → Prop} (h : DiskAt w b D F) (e : Ext S w w') (o : Off F S) : DiskAt w' b D (Lt F w) :=
  (h.mono (F' := Lt F w) (fun _ hk h => ⟨h, hk⟩)).ext e (fun k _ h => o k h.1)
theorem RDiskAt.keep {w w' : World} {b : Nat} {D : Dk} {F S : Nat → Prop} (h : RDiskAt w b D F) (e : Ext S w w') (o : Off F S) : RDiskAt w' b D (Lt F w) :=
  (h.mono (F' := Lt F w) (fun _ hk h => ⟨h, hk⟩)).ext e (fun k _ h => o k h.1)
/-- F has none of the blocks that are to stay. -/
def New (K F : Nat → Prop) : Prop := ∀ k, F k → ¬ K k
theorem New.lt {K F : Nat → Prop} {w : World} (h : New K F) : New K (Lt F w) := fun k hk => h k hk.1
theorem New.fsh {K F : Nat → Prop} {w : World} (h : New K F) (hs : ∀ k, K k → k < w.heap.size) : New K (Fsh F w) := fun k hk => hk.elim (h k) (fun hk hx => by have := hs k hx; omega)
theorem Ext.new {K S : Nat → Prop} {w0 w w' : World} (h : Ext (fun k => ¬ K k) w0 w) (e : Ext S w w') (n : New K S) : Ext (fun k => ¬ K k) w0 w' := h.trans e (fun k _ hx => n k hx)

structure Parts (K : Nat → Prop) (w0 w : World) (bl bd rl rd : Nat) (L : Lg) (D : Dk) (L2 : Lg) (D2 : Dk) (A B C E : Nat → Prop) : Prop where
  log : LogAt w bl L bd A
  disk : DiskAt w bd D B
  rlog : RLogAt w rl L2 rd C
  rdisk : RDiskAt w rd D2 E
  ab : Off A B
  ac : Off A C
  ae : Off A E
  bc : Off B C
  be : Off B E
  ce : Off C E
  na : New K A
  nb : New K B
  nc : New K C
  ne : New K E
  kb : ∀ k, K k → k < w0.heap.size
  ext : Ext (fun k => ¬ K k) w0 w
def St (K : Nat → Prop) (w0 w : World) (bl bd rl rd : Nat) (L : Lg) (D : Dk) (L2 : Lg) (D2 : Dk) : Prop := ∃ A B C E, Parts K w0 w bl bd rl rd L D L2 D2 A B C E

section
variable {w0 w : World} {bl bd rl rd : Nat} {L L2 L' : Lg} {D D2 D' : Dk} {A B C E K : Nat → Prop}
theorem Parts.kl (h : Parts K w0 w bl bd rl rd L D L2 D2 A B C E) : ∀ k, K k → k < w.heap.size := fun k hk => Nat.lt_of_lt_of_le (h.kb k hk) h.ext.size
theorem Parts.stepA {w' : World} (h : Parts K w0 w bl bd rl rd L D L2 D2 A B C E) (hl : LogAt w' bl L' bd (Fsh A w)) (e : Ext A w w') : St K w0 w' bl bd rl rd L' D L2 D2 :=
  ⟨_, _, _, _, hl, h.disk.keep e h.ab.symm, h.rlog.keep e h.ac.symm, h.rdisk.keep e h.ae.symm, h.ab.fshL w, h.ac.fshL w, h.ae.fshL w, h.bc.lt w, h.be.lt w, h.ce.lt w,
    h.na.fsh h.kl, h.nb.lt, h.nc.lt, h.ne.lt, h.kb, h.ext.new e h.na⟩
theorem Parts.stepC {w' : World} (h : Parts K w0 w bl bd rl rd L D L2 D2 A B C E) (hl : RLogAt w' rl L' rd (Fsh C w)) (e : Ext C w w') : St K w0 w' bl bd rl rd L D L' D2 :=
  ⟨_, _, _, _, h.log.keep e h.ac, h.disk.keep e h.bc, hl, h.rdisk.keep e h.ce.symm, h.ab.lt w, h.ac.fshR w, h.ae.lt w, h.bc.fshR w, h.be.lt w, h.ce.fshL w,
    h.na.lt, h.nb.lt, h.nc.fsh h.kl, h.ne.lt, h.kb, h.ext.new e h.nc⟩
theorem Parts.stepB {w' : World} (h : Parts K w0 w bl bd rl rd L D L2 D2 A B C E) (hl : DiskAt w' bd D' (Fsh B w)) (e : Ext B w w') : St K w0 w' bl bd rl rd L D' L2 D2 :=
  ⟨_, _, _, _, h.log.keep e h.ab, hl, h.rlog.keep e h.bc.symm, h.rdisk.keep e h.be.symm, h.ab.fshR w, h.ac.lt w, h.ae.lt w, h.bc.fshL w, h.be.fshL w, h.ce.lt w,
    h.na.lt, h.nb.fsh h.kl, h.nc.lt, h.ne.lt, h.kb, h.ext.new e h.nb⟩
theorem Parts.stepE {w' : World} (h : Parts K w0 w bl bd rl rd L D L2 D2 A B C E) (hl : RDiskAt w' rd D' (Fsh E w)) (e : Ext E w w') : St K w0 w' bl bd rl rd L D L2 D' :=
  ⟨_, _, _, _, h.log.keep e h.ae, h.disk.keep e h.be, h.rlog.keep e h.ce, hl, h.ab.lt w, h.ac.lt w, h.ae.fshR w, h.bc.lt w, h.be.fshR w, h.ce.fshR w,
    h.na.lt, h.nb.lt, h.nc.lt, h.ne.fsh h.kl, h.kb, h.ext.new e h.ne⟩
theorem St.of {w' : World} (h : St K w0 w bl bd rl rd L D L2 D2) (e : Ext NoB w w') : St K w0 w' bl bd rl rd L D L2 D2 := by
  obtain ⟨A, B, C, E, h⟩ := h
  exact ⟨_, _, _, _, h.log.keep e (fun _ _ => id), h.disk.keep e (fun _ _ => id), h.rlog.keep e (fun _ _ => id), h.rdisk.keep e (fun _ _ => id), h.ab.lt w, h.ac.lt w, h.ae.lt w, h.bc.lt w, h.be.lt w, h.ce.lt w,
    h.na.lt, h.nb.lt, h.nc.lt, h.ne.lt, h.kb, h.ext.trans e (fun _ _ h => h.elim)⟩
theorem St.anew {K' : Nat → Prop} {w1 : World} (h : St K w0 w bl bd rl rd L D L2 D2) (e : Ext NoB w w1) (hK : ∀ k, K' k → K k ∨ w.heap.size ≤ k) (hb : ∀ k, K' k → k < w1.heap.size) : St K' w1 w1 bl bd rl rd L D L2 D2 := by
  obtain ⟨A, B, C, E, h⟩ := h
  have key : ∀ F, New K F → New K' (Lt F w) := fun F hF k hk hx => (hK k hx).elim (fun hx => hF k hk.1 hx) (fun hx => by have := hk.2; omega)
  exact ⟨_, _, _, _, h.log.keep e (fun _ _ => id), h.disk.keep e (fun _ _ => id), h.rlog.keep e (fun _ _ => id), h.rdisk.keep e (fun _ _ => id), h.ab.lt w, h.ac.lt w, h.ae.lt w, h.bc.lt w, h.be.lt w, h.ce.lt w,
    key _ h.na, key _ h.nb, key _ h.nc, key _ h.ne, hb, Ext.refl _ _⟩
theorem St.back {K' : Nat → Prop} {w1 : World} (h : St K' w1 w bl bd rl rd L D L2 D2) (hK : ∀ k, K k → K' k) (e : Ext (fun k => ¬ K k) w0 w1) (kb : ∀ k, K k → k < w0.heap.size) : St K w0 w bl bd rl rd L D L2 D2 := by
  obtain ⟨A, B, C, E, h⟩ := h
  have key : ∀ F, New K' F → New K F := fun F hF k hk hx => hF k hk (hK k hx)
  exact ⟨_, _, _, _, h.log, h.disk, h.rlog, h.rdisk, h.ab, h.ac, h.ae, h.bc, h.be, h.ce, key _ h.na, key _ h.nb, key _ h.nc, key _ h.ne, kb, e.trans h.ext (fun k _ hx hk => hx (hK k hk))⟩
theorem St.ext (h : St K w0 w bl bd rl rd L D L2 D2) : Ext (fun k => ¬ K k) w0 w := by obtain ⟨A, B, C, E, h⟩ := h; exact h.ext

theorem St.append (h : St K w0 w bl bd rl rd L D L2 D2) (hok : L.Ok) (hbig : L.fin ≤ 4611686018427300000) (r : ByteArray) (hr63 : r.size ≤ 9223372036854775000) (a c : Int) (hr : L.append r = ((a, c), L')) :
    Calls Try.prog 11 #[.pointer (some ⟨bl, 0, none⟩), .string r] w fun e w' => e = .returned (.tuple #[.int .i64 a, .int .i64 c]) ∧ St K w0 w' bl bd rl rd L' D L2 D2 := by
  obtain ⟨A, B, C, E, h⟩ := h
  exact (append_calls bl bd L A w h.log hok hbig r hr63 a c L' hr).mono fun e w' ⟨he, hl, hx⟩ => ⟨he, h.stepA hl hx⟩
theorem St.rappend (h : St K w0 w bl bd rl rd L D L2 D2) (hok : L2.Ok) (hbig : L2.fin ≤ 4611686018427300000) (r : ByteArray) (hr63 : r.size ≤ 9223372036854775000) (a c : Int) (hr : L2.append r = ((a, c), L')) :
    Calls Try.prog 12 #[.pointer (some ⟨rl, 0, none⟩), .string r] w fun e w' => e = .returned (.tuple #[.int .i64 a, .int .i64 c]) ∧ St K w0 w' bl bd rl rd L D L' D2 := by
  obtain ⟨A, B, C, E, h⟩ := h
  exact (rappend_calls rl rd L2 C w h.rlog hok hbig r hr63 a c L' hr).mono fun e w' ⟨he, hl, hx⟩ => ⟨he, h.stepC hl hx⟩
theorem St.flush (h : St K w0 w bl bd rl rd L D L2 D2) (hok : L.Ok) (hD : D.Ok) (hn : 0 < D.firm.length) (hsf : D.soft.length ≤ 990000) (t : Int) (h0 : -9223372036854775808 ≤ t) (h1 : t ≤ 9223372036854775807) (c : Int) (hr : L.flush D t = (c, L', D')) :
    Calls Try.prog 13 #[.pointer (some ⟨bl, 0, none⟩), .int .i64 t] w fun e w' => e = .returned (.int .i64 c) ∧ St K w0 w' bl bd rl rd L' D' L2 D2 := by
  obtain ⟨A, B, C, E, h⟩ := h
  refine (flush_calls bl bd L D (Lt A w) B w (h.log.mono (fun _ hk h => ⟨h, hk⟩)) hok h.disk hD hn hsf (fun k ha => h.ab k ha.1) t h0 h1 c L' D' hr).mono fun e w' ⟨he, hl, hd, hx⟩ => ⟨he, ?_⟩
  have oc : Off C (fun k => Lt A w k ∨ B k) := fun k hc hx => hx.elim (fun ha => h.ac k ha.1 hc) (fun hb => h.bc k hb hc)
  have oe : Off E (fun k => Lt A w k ∨ B k) := fun k hc hx => hx.elim (fun ha => h.ae k ha.1 hc) (fun hb => h.be k hb hc)
  have nn : New K (fun k => Lt A w k ∨ B k) := fun k hx => hx.elim (fun ha => h.na k ha.1) (h.nb k)
  exact ⟨_, _, _, _, hl, hd, h.rlog.keep hx oc, h.rdisk.keep hx oe, h.ab.fshR w, h.ac.lt w, h.ae.lt w, h.bc.fshL w, h.be.fshL w, h.ce.lt w,
    h.na.lt, h.nb.fsh h.kl, h.nc.lt, h.ne.lt, h.kb, h.ext.new hx nn⟩
theorem St.rflush (h : St K w0 w bl bd rl rd L D L2 D2) (hok : L2.Ok) (hD : D2.Ok) (hsf : D2.soft.length ≤ 990000) (t : Int) (h0 : -9223372036854775808 ≤ t) (h1 : t ≤ 9223372036854775807) (c : Int) (hr : L2.flush D2 t = (c, L', D')) :
    Calls Try.prog 14 #[.pointer (some ⟨rl, 0, none⟩), .int .i64 t] w fun e w' => e = .returned (.int .i64 c) ∧ St K w0 w' bl bd rl rd L D L' D' := by
  obtain ⟨A, B, C, E, h⟩ := h
  refine (rflush_calls rl rd L2 D2 (Lt C w) E w (h.rlog.mono (fun _ hk h => ⟨h, hk⟩)) hok h.rdisk hD hsf (fun k ha => h.ce k ha.1) t h0 h1 c L' D' hr).mono fun e w' ⟨he, hl, hd, hx⟩ => ⟨he, ?_⟩
  have oa : Off A (fun k => Lt C w k ∨ E k) := fun k ha hx => hx.elim (fun hc => h.ac k ha hc.1) (fun he => h.ae k ha he)
  have ob : Off B (fun k => Lt C w k ∨ E k) := fun k ha hx => hx.elim (fun hc => h.bc k ha hc.1) (fun he => h.be k ha he)
  have nn : New K (fun k => Lt C w k ∨ E k) := fun k hx => hx.elim (fun ha => h.nc k ha.1) (h.ne k)
  exact ⟨_, _, _, _, h.log.keep hx oa, h.disk.keep hx ob, hl, hd, h.ab.lt w, h.ac.lt w, h.ae.fshR w, h.bc.lt w, h.be.fshR w, h.ce.fshR w,
    h.na.lt, h.nb.lt, h.nc.lt, h.ne.fsh h.kl, h.kb, h.ext.new hx nn⟩
theorem St.read (h : St K w0 w bl bd rl rd L D L2 D2) (hok : L.Ok) (t : Int) (h0 : -9223372036854775808 ≤ t) (h1 : t ≤ 9223372036854775807) (s : ByteArray) (c : Int) (hr : L.read t = (s, c)) :
    Calls Try.prog 15 #[.pointer (some ⟨bl, 0, none⟩), .int .i64 t] w fun e w' => e = .returned (.tuple #[.string s, .int .i64 c]) ∧ St K w0 w' bl bd rl rd L D L2 D2 := by
  obtain ⟨A, B, C, E, hp⟩ := h
  exact (lread_calls bl bd L A w hp.log hok t h0 h1 s c hr).mono fun e w' ⟨he, hx⟩ => ⟨he, St.of ⟨A, B, C, E, hp⟩ hx⟩
theorem St.rread (h : St K w0 w bl bd rl rd L D L2 D2) (hok : L2.Ok) (t : Int) (h0 : -9223372036854775808 ≤ t) (h1 : t ≤ 9223372036854775807) (s : ByteArray) (c : Int) (hr : L2.read t = (s, c)) :
    Calls Try.prog 16 #[.pointer (some ⟨rl, 0, none⟩), .int .i64 t] w fun e w' => e = .returned (.tuple #[.string s, .int .i64 c]) ∧ St K w0 w' bl bd rl rd L D L2 D2 := by
  obtain ⟨A, B, C, E, hp⟩ := h
  exact (rlread_calls rl rd L2 C w hp.rlog hok t h0 h1 s c hr).mono fun e w' ⟨he, hx⟩ => ⟨he, hx ▸ ⟨A, B, C, E, hp⟩⟩
theorem St.place (h : St K w0 w bl bd rl rd L D L2 D2) (hok : L2.Ok) (kind : Int) (text : ByteArray) (t : Int) (raw : Bool) (kv : Value) (h0 : -9223372036854775808 ≤ t) (h1 : t ≤ 9223372036854775807) :
    Calls Try.prog 10 #[.pointer (some ⟨rl, 0, none⟩), .agg #[.int .i64 kind, .string text, .int .i64 t, .bool raw, kv]] w fun e w' => e = .returned (.int .i64 (L2.place t raw)) ∧ Ext NoB w w' := by
  obtain ⟨A, B, C, E, hp⟩ := h
  exact place_calls rl rd L2 C w hp.rlog hok kind text t raw kv h0 h1
theorem St.cut_no (h : St K w0 w bl bd rl rd L D L2 D2) (hok : L.Ok) (t : Int) (h0 : -9223372036854775808 ≤ t) (h1 : t ≤ 9223372036854775807) (hno : (L.firm : Int) < t ∨ (t ≠ L.fin ∧ ∀ p ∈ L.list, (p.1 : Int) ≠ t)) :
    Calls Try.prog 17 #[.pointer (some ⟨bl, 0, none⟩), .int .i64 t] w fun e w' => e = .returned (.int .i64 1) ∧ St K w0 w' bl bd rl rd L D L2 D2 := by
  obtain ⟨A, B, C, E, hp⟩ := h
  exact (Ytdhklomnaodcnaa.cut_no bl bd L A w hp.log hok t h0 h1 hno).mono fun e w' ⟨he, hx⟩ => ⟨he, St.of ⟨A, B, C, E, hp⟩ hx⟩
theorem St.rcut_no (h : St K w0 w bl bd rl rd L D L2 D2) (hok : L2.Ok) (t : Int) (h0 : -9223372036854775808 ≤ t) (h1 : t ≤ 9223372036854775807) (hno : (L2.firm : Int) < t ∨ (t ≠ L2.fin ∧ ∀ p ∈ L2.list, (p.1 : Int) ≠ t)) :
    Calls Try.prog 18 #[.pointer (some ⟨rl, 0, none⟩), .int .i64 t] w fun e w' => e = .returned (.int .i64 1) ∧ St K w0 w' bl bd rl rd L D L2 D2 := by
  obtain ⟨A, B, C, E, hp⟩ := h
  exact (Ytdhklomnaodcnaa.rcut_no rl rd L2 C w hp.rlog hok t h0 h1 hno).mono fun e w' ⟨he, hx⟩ => ⟨he, hx ▸ ⟨A, B, C, E, hp⟩⟩
theorem St.cut_yes (h : St K w0 w bl bd rl rd L D L2 D2) (hok : L.Ok) (a k : Nat) (hc : L.CutOk a k) :
    Calls Try.prog 17 #[.pointer (some ⟨bl, 0, none⟩), .int .i64 a] w fun e w' => e = .returned (.int .i64 0) ∧ St K w0 w' bl bd rl rd (L.cutAt a k) D L2 D2 := by
  obtain ⟨A, B, C, E, hp⟩ := h
  have key : Calls Try.prog 17 #[.pointer (some ⟨bl, 0, none⟩), .int .i64 a] w fun e w' => e = .returned (.int .i64 0) ∧ LogAt w' bl (L.cutAt a k) bd (Fsh A w) ∧ Ext A w w' := by
    rcases hc with ⟨hf, ⟨ha, hk⟩ | ⟨hk, ha⟩⟩
    · exact cut_fin bl bd L A w hp.log hok a k hk ha hf
    · exact cut_at bl bd L A w hp.log hok a k hk ha hf
  exact key.mono fun e w' ⟨he, hl, hx⟩ => ⟨he, hp.stepA hl hx⟩
theorem St.rcut_yes (h : St K w0 w bl bd rl rd L D L2 D2) (hok : L2.Ok) (a k : Nat) (hc : L2.CutOk a k) :
    Calls Try.prog 18 #[.pointer (some ⟨rl, 0, none⟩), .int .i64 a] w fun e w' => e = .returned (.int .i64 0) ∧ St K w0 w' bl bd rl rd L D (L2.cutAt a k) D2 := by
  obtain ⟨A, B, C, E, hp⟩ := h
  exact (Ytdhklomnaodcnaa.rcut_yes rl rd L2 C w hp.rlog hok a k hc).mono fun e w' ⟨he, hl, hx⟩ => ⟨he, hp.stepC hl hx⟩
theorem St.fuel (h : St K w0 w bl bd rl rd L D L2 D2) (n : Int) (h0 : -9223372036854775808 ≤ n) (h1 : n ≤ 9223372036854775807) :
    Calls Try.prog 19 #[.pointer (some ⟨bd, 0, none⟩), .int .i64 n] w fun e w' => e = .returned (.tuple #[]) ∧ St K w0 w' bl bd rl rd L (D.fueled n) L2 D2 := by
  obtain ⟨A, B, C, E, hp⟩ := h
  exact (fuel_calls bd D B w hp.disk n h0 h1).mono fun e w' ⟨he, hd, hx⟩ => ⟨he, hp.stepB (hd.mono (fun _ _ h => .inl h)) hx⟩
theorem RDiskAt.setFuel {F : Nat → Prop} (h : RDiskAt w rd D F) (n : Int) : RDiskAt (w.setCell ⟨rd, 2, none⟩ (.int .i64 (max n (-1)))) rd (D.fueled n) F ∧ Ext F w (w.setCell ⟨rd, 2, none⟩ (.int .i64 (max n (-1)))) := by
  obtain ⟨vf, vs, hb, h1, h2, fb, f1, f2, d⟩ := h
  exact ⟨⟨vf, vs, hb.set 2 _, h1.far _ (fun e => (f1 _ e).2 rfl), h2.far _ (fun e => (f2 _ e).2 rfl), fb, f1, f2, d⟩, (Ext.refl F w).setCell _ (fun _ => fb)⟩
theorem St.rfuel (h : St K w0 w bl bd rl rd L D L2 D2) (n : Int) : w.cell? ⟨rd, 2, none⟩ = some (.int .i64 D2.fuel) ∧ w.frozen? ⟨rd, 2, none⟩ = false ∧ St K w0 (w.setCell ⟨rd, 2, none⟩ (.int .i64 (max n (-1)))) bl bd rl rd L D L2 (D2.fueled n) := by
  obtain ⟨A, B, C, E, hp⟩ := h
  obtain ⟨k1, k2⟩ := hp.rdisk.setFuel n
  have hc : w.cell? ⟨rd, 2, none⟩ = some (.int .i64 D2.fuel) ∧ w.frozen? ⟨rd, 2, none⟩ = false := by
    obtain ⟨vf, vs, hb, _⟩ := hp.rdisk
    exact ⟨hb.cell rfl, hb.fr 2⟩
  exact ⟨hc.1, hc.2, hp.stepE (k1.mono (fun _ _ h => .inl h)) k2⟩

/-- Behind a crash: the new devices, and the reference's old log. -/
structure Parts2 (K : Nat → Prop) (w0 w : World) (bd rl ro rd : Nat) (D : Dk) (L : Lg) (D2 : Dk) (B C E : Nat → Prop) : Prop where
  disk : DiskAt w bd D B
  rlog : RLogAt w rl L ro C
  rdisk : RDiskAt w rd D2 E
  bc : Off B C
  be : Off B E
  ce : Off C E
  nb : New K B
  nc : New K C
  ne : New K E
  kb : ∀ k, K k → k < w0.heap.size
  ext : Ext (fun k => ¬ K k) w0 w
def St2 (K : Nat → Prop) (w0 w : World) (bd rl ro rd : Nat) (D : Dk) (L : Lg) (D2 : Dk) : Prop := ∃ B C E, Parts2 K w0 w bd rl ro rd D L D2 B C E
theorem New.fresh {K : Nat → Prop} {w : World} (hs : ∀ k, K k → k < w.heap.size) : New K (Fsh NoB w) := fun k hk => hk.elim (fun h => h.elim) (fun h hx => by have := hs k hx; omega)
theorem Parts2.kl {K B C E : Nat → Prop} {w0 w : World} {bd rl ro rd : Nat} {D D2 : Dk} {L : Lg} (h : Parts2 K w0 w bd rl ro rd D L D2 B C E) : ∀ k, K k → k < w.heap.size := fun k hk => Nat.lt_of_lt_of_le (h.kb k hk) h.ext.size
theorem Off.new {F : Nat → Prop} {w : World} : Off (Fsh NoB w) (Lt F w) := fun k hk hf => hk.elim (fun h => h.elim) (fun h => by have := hf.2; omega)
theorem St.crash (h : St K w0 w bl bd rl rd L D L2 D2) (hok : D.Ok) (v : Value) (ks : List Bool) (hk : KeepAt w v ks) (hks : ks.length ≤ 140737488355328) :
    Calls Try.prog 20 #[.pointer (some ⟨bd, 0, none⟩), v] w fun e w' => ∃ b', e = .returned (.pointer (some ⟨b', 0, none⟩)) ∧ St2 K w0 w' b' rl rd rd (D.crash ks) L2 D2 := by
  obtain ⟨A, B, C, E, h⟩ := h
  exact (crash_calls bd D B w h.disk hok v ks hk hks).mono fun e w' ⟨b', he, hd, hx⟩ => ⟨b', he, _, _, _, hd, h.rlog.keep hx h.bc.symm, h.rdisk.keep hx h.be.symm, Off.new, Off.new, h.ce.lt w, New.fresh h.kl, h.nc.lt, h.ne.lt, h.kb, h.ext.new hx h.nb⟩
theorem St2.rcrash {ro : Nat} (h : St2 K w0 w bd rl ro rd D L2 D2) (hok : D2.Ok) (v : Value) (ks : List Bool) (hk : KeepAt w v ks) (hks : ks.length ≤ 140737488355328) :
    Calls Try.prog 21 #[.pointer (some ⟨rd, 0, none⟩), v] w fun e w' => ∃ b', e = .returned (.pointer (some ⟨b', 0, none⟩)) ∧ St2 K w0 w' bd rl ro b' D L2 (D2.crash ks) := by
  obtain ⟨B, C, E, h⟩ := h
  exact (rcrash_calls rd D2 E w h.rdisk hok v ks hk hks).mono fun e w' ⟨b', he, hd, hx⟩ => ⟨b', he, _, _, _, h.disk.keep hx h.be, h.rlog.keep hx h.ce, hd, h.bc.lt w, Off.new.symm, Off.new.symm, h.nb.lt, h.nc.lt, New.fresh h.kl, h.kb, h.ext.new hx h.ne⟩
theorem St2.of {ro : Nat} {w' : World} (h : St2 K w0 w bd rl ro rd D L2 D2) (e : Ext NoB w w') : St2 K w0 w' bd rl ro rd D L2 D2 := by
  obtain ⟨B, C, E, h⟩ := h
  exact ⟨_, _, _, h.disk.keep e (fun _ _ => id), h.rlog.keep e (fun _ _ => id), h.rdisk.keep e (fun _ _ => id), h.bc.lt w, h.be.lt w, h.ce.lt w, h.nb.lt, h.nc.lt, h.ne.lt, h.kb, h.ext.trans e (fun _ _ h => h.elim)⟩
theorem St2.ext {ro : Nat} (h : St2 K w0 w bd rl ro rd D L2 D2) : Ext (fun k => ¬ K k) w0 w := by obtain ⟨B, C, E, h⟩ := h; exact h.ext
theorem St.startCell (h : St K w0 w bl bd rl rd L D L2 D2) : w.cell? ⟨rl, 3, none⟩ = some (.int .i64 L2.start) := by
  obtain ⟨A, B, C, E, h⟩ := h
  obtain ⟨_, hb, _⟩ := h.rlog
  exact hb.cell rfl
theorem St2.startCell {ro : Nat} (h : St2 K w0 w bd rl ro rd D L2 D2) : w.cell? ⟨rl, 3, none⟩ = some (.int .i64 L2.start) := by
  obtain ⟨B, C, E, h⟩ := h
  obtain ⟨_, hb, _⟩ := h.rlog
  exact hb.cell rfl
theorem St2.refused {ro size : Nat} (h : St2 K w0 w bd rl ro rd D L2 D2) (hl : D.firm.length = size) (hs : size ≤ 5000) (first n start : Int) (hr : RingOk size first n) (hb : start < 54 ∨ 1099511627776 < start) :
    Calls Try.prog 22 #[.pointer (some ⟨bd, 0, none⟩), .int .i64 first, .int .i64 n, .int .i64 start] w fun e w' => e = .returned (.bool true) ∧ w = w' := by
  obtain ⟨B, C, E, h⟩ := h
  exact refused_calls bd size D B w h.disk hl hs first n start hr hb
theorem St2.ringed {ro : Nat} (h : St2 K w0 w bd rl ro rd D L2 D) (hok : D.Ok) (first n : Nat) (hn : n ≤ 5000) (hf : first ≤ 5000) :
    Calls Try.prog 23 #[.pointer (some ⟨bd, 0, none⟩), .pointer (some ⟨rd, 0, none⟩), .int .i64 first, .int .i64 n] w fun e w' => e = .returned (.bool true) ∧ w = w' := by
  obtain ⟨B, C, E, h⟩ := h
  exact ringed_calls bd rd D B E w h.disk h.rdisk hok first n hn hf
theorem St.ringed (h : St K w0 w bl bd rl rd L D L2 D) (hok : D.Ok) (first n : Nat) (hn : n ≤ 5000) (hf : first ≤ 5000) :
    Calls Try.prog 23 #[.pointer (some ⟨bd, 0, none⟩), .pointer (some ⟨rd, 0, none⟩), .int .i64 first, .int .i64 n] w fun e w' => e = .returned (.bool true) ∧ w = w' := by
  obtain ⟨A, B, C, E, h⟩ := h
  exact ringed_calls bd rd D B E w h.disk h.rdisk hok first n hn hf

/-- Behind the program's Open: its log and device, the entries that it gave, the reference's device. -/
structure Parts3 (K : Nat → Prop) (w0 w : World) (bl bd rd : Nat) (L : Lg) (D : Dk) (D2 : Dk) (v : Value) (A B E : Nat → Prop) : Prop where
  log : LogAt w bl L bd A
  disk : DiskAt w bd D B
  rdisk : RDiskAt w rd D2 E
  list : Own w v 86 2 L.list.length (softCells L.list)
  ab : Off A B
  ae : Off A E
  be : Off B E
  ve : ∀ k, fp v = some k → ¬ E k
  na : New K A
  nb : New K B
  ne : New K E
  kb : ∀ k, K k → k < w0.heap.size
  ext : Ext (fun k => ¬ K k) w0 w
def St3 (K : Nat → Prop) (w0 w : World) (bl bd rd : Nat) (L : Lg) (D : Dk) (D2 : Dk) (v : Value) : Prop := ∃ A B E, Parts3 K w0 w bl bd rd L D D2 v A B E
theorem Parts3.kl {rd : Nat} {v : Value} (h : Parts3 K w0 w bl bd rd L D D2 v A B E) : ∀ k, K k → k < w.heap.size := fun k hk => Nat.lt_of_lt_of_le (h.kb k hk) h.ext.size
theorem St2.opens {ro : Nat} {S : List ByteArray} (h : St2 K w0 w bd rl ro rd (Dk.fresh S) L2 D2) (hD : (Dk.fresh S).Ok) (first n start : Nat) (hr : RingOk S.length first n) (h54 : 54 ≤ start) (h40 : start ≤ 1099511627776) :
    Calls Try.prog 24 #[.pointer (some ⟨bd, 0, none⟩), .int .i64 first, .int .i64 n, .int .i64 start] w fun e w' => ∃ bl vl, e = .returned (.tuple #[.pointer (some ⟨bl, 0, none⟩), vl, .int .i64 0]) ∧
      St3 K w0 w' bl bd rd (opened S first n start) ((opened S first n start).wipes n 0 (Dk.fresh S)).flat D2 vl := by
  obtain ⟨B, C, E, h⟩ := h
  exact (open_calls bd S B w h.disk hD first n start hr h54 h40).mono fun e w' ⟨bl, vl, FL, he, hFL, hl, hd, ho, hv, hx⟩ =>
    ⟨bl, vl, he, FL, _, _, hl, hd, h.rdisk.keep hx h.be.symm, ho, fun k ha hb => hb.2 ha, fun k ha he => by have := hFL k ha; have := he.2; omega,
      fun k hb he => hb.1.elim (fun hb => h.be k hb he.1) (fun hb => by have := he.2; omega), fun k hk he => by have := hv k hk; have := he.2; omega,
      fun k hk hx => by have := h.kl k hx; have := hFL k hk; omega, fun k hk => hk.1.elim (h.nb k) (fun hk hx => by have := h.kl k hx; omega), h.ne.lt, h.kb, h.ext.new hx h.nb⟩
theorem St3.ropens {S : List ByteArray} {v : Value} (h : St3 K w0 w bl bd rd L D (Dk.fresh S) v) (hD : (Dk.fresh S).Ok) (first n start : Nat) (hr : RingOk S.length first n) (h54 : 54 ≤ start) (h40 : start ≤ 1099511627776) :
    Calls Try.prog 25 #[.pointer (some ⟨rd, 0, none⟩), .int .i64 first, .int .i64 n, .int .i64 start] w fun e w' => ∃ rl, e = .returned (.tuple #[.pointer (some ⟨rl, 0, none⟩), .int .i64 0]) ∧
      St K w0 w' bl bd rl rd L D (opened S first n start) ((opened S first n start).wipes n 0 (Dk.fresh S)).flat ∧ Own w' v 86 2 L.list.length (softCells L.list) := by
  obtain ⟨A, B, E, h⟩ := h
  exact (ropen_calls rd S E w h.rdisk hD first n start hr h54 h40).mono fun e w' ⟨rl, FL, he, hFL, hl, hd, hx⟩ =>
    ⟨rl, he, ⟨_, _, FL, _, h.log.keep hx h.ae, h.disk.keep hx h.be, hl, hd, h.ab.lt w, fun k ha hf => by have := hFL k hf; have := ha.2; omega,
      fun k ha he => he.1.elim (fun he => h.ae k ha.1 he) (fun he => by have := ha.2; omega), fun k ha hf => by have := hFL k hf; have := ha.2; omega,
      fun k hb he => he.1.elim (fun he => h.be k hb.1 he) (fun he => by have := hb.2; omega), fun k hf he => he.2 hf,
      h.na.lt, h.nb.lt, fun k hk hx => by have := h.kl k hx; have := hFL k hk; omega, fun k hk => hk.1.elim (h.ne k) (fun hk hx => by have := h.kl k hx; omega), h.kb, h.ext.new hx h.ne⟩,
      h.list.ext hx h.ve⟩
end
end Go.Proofs.Ytdhklomnaodcnaa
