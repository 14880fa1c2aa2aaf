/- The law's awake; the calls in memory; the two systems at the start; what holds at each round. -/
import Derived.Test.YtdhklomnaodcnaaSt

namespace Go.Proofs.Ytdhklomnaodcnaa
open Go.RowKit

def ab : ByteArray := ⟨#[97, 98]⟩
def awL : Lg := (Lg.new 0 128).add ab
def awD : Dk := Dk.fresh (List.replicate 128 blank)
def awS : ByteArray := awL.sect 1
theorem awS_size : awS.size = 64 := awL.sect_size 1
theorem aw_append : (Lg.new 0 128).append ab = ((54, 0), awL) := by rfl
theorem aw_flush : awL.flush awD 54 = (0, { awL with firm := 58 }, (awD.put 1 awS).flat) := by
  have hw : awD.write ((awL.first + 1 % awL.n : Nat) : Int) (awL.sect 1) = (0, awD.put 1 awS) := Dk.write_put rfl rfl (by show 0 + 1 % 128 < (List.replicate 128 blank).length; simp) (awL.sect_size 1)
  have hws : awL.writes (awL.left (awL.firm / 54)) (awL.firm / 54) awD = (0, awD.put 1 awS) := by
    show awL.writes 1 1 awD = _
    rw [Lg.writes_succ, hw]
    rfl
  unfold Lg.flush
  rw [if_neg (by show ¬ ((54 : Int) < ((54 : Nat) : Int) ∨ (54 : Nat) = 58); omega), hws, if_neg (by simp), Dk.barrier_flat rfl rfl, if_neg (by simp)]
  rfl
theorem aw_read : ((awD.put 1 awS).flat).read 1 = (awS, 0) := by
  have hf : ((awD.put 1 awS).flat).firm = (List.replicate 128 blank).set 1 awS := by
    show (awD.put 1 awS).seen = _
    rw [Dk.put_seen]; rfl
  have hs : ((awD.put 1 awS).flat).seen = (List.replicate 128 blank).set 1 awS := by
    rw [← hf]; rfl
  unfold Dk.read
  rw [if_neg (by show ¬ (false = true); decide), if_neg (by rw [hf, List.length_set, List.length_replicate]; omega), hs]
  rfl
theorem aw_head : awS.extract 0 14 = ⟨#[2, 0, 0, 0, 0, 0, 0, 0, 4, 0, 2, 0, 97, 98]⟩ := by rfl

set_option maxHeartbeats 2000000 in
set_option maxRecDepth 100000 in
theorem awake_calls (w : World) : Calls Try.prog 4 #[] w fun e w' => e = .returned (.bool true) ∧ Ext NoB w w' := by
  have HN := Lib.hid (new_calls 128 (by omega) (by omega) w)
  go_enter Try.func4, Try.ntmps4
  go_wp2_with fail
  refine HN.out.mono ?_
  rintro e w1 ⟨rfl, hD1, hE1⟩
  obtain ⟨bd, hbd⟩ : ∃ x, w.heap.size = x := ⟨_, rfl⟩
  rw [hbd] at hD1 ⊢
  have HC := Lib.hid (create_yes bd 128 _ w1 hD1 (by omega) 0 128 (by decide))
  have HE1 := Lib.hid hE1
  clear hD1 hE1 HN hbd
  go_wp2_with fail
  refine HC.out.mono ?_
  rintro e w2 ⟨bl, rfl, hz2, hL2, hD2, hE2⟩
  have KE2 := Lib.hid (HE1.out.trans hE2 (fun k hk h => h.elim (fun h => h.elim) (fun h => by omega)))
  have HA := Lib.hid (append_calls bl bd (Lg.new 0 128) _ w2 (hL2.mono (F' := fun k => k = bl) (fun _ _ h => h)) (Lg.new_Ok 0 128 (by omega) (by omega) (by omega)) (by show 54 ≤ _; omega) ab (by decide) 54 0 awL aw_append)
  have HD2 := Lib.hid hD2
  have HZ2 := Lib.hid hz2
  clear hL2 hD2 hE2 HC hz2
  go_wp2_with fail
  refine HA.out.mono ?_
  rintro e w3 ⟨rfl, hL3, hE3⟩
  have hok3 : awL.Ok := by
    have := (Lg.append_good (Lg.new_Ok 0 128 (by omega) (by omega) (by omega)) ab (by show 54 ≤ _; omega)).1
    rw [aw_append] at this; exact this
  have hD3 : DiskAt w3 bd awD (fun k => (Fsh (Fsh NoB w) w1 k ∧ k ≠ bl) ∧ k < w2.heap.size) :=
    (HD2.out.mono (F' := fun k => (Fsh (Fsh NoB w) w1 k ∧ k ≠ bl) ∧ k < w2.heap.size) (fun k hk h => ⟨h, hk⟩)).ext hE3 (fun k _ h => h.1.2)
  have hDok : awD.Ok := Dk.fresh_Ok (by simp) (fun s h => by rw [(List.mem_replicate.1 h).2]; rfl)
  have HF := Lib.hid (flush_calls bl bd awL awD _ _ w3 hL3 hok3 hD3 hDok (by show 0 < (List.replicate 128 blank).length; simp) (by simp [awD, Dk.fresh]) (fun k ha hb => ha.elim (fun h => hb.1.2 h) (fun h => by have := hb.2; omega)) 54 (by omega) (by omega) 0 _ _ aw_flush)
  have KE3 := Lib.hid (KE2.out.trans hE3 (fun k hk h => by subst h; have := HZ2.out; have := HE1.out.size; omega))
  have HDK := Lib.hid hDok
  have Z1 := Lib.hid HE1.out.size
  have Z2 := Lib.hid KE2.out.size
  have Z3 := Lib.hid KE3.out.size
  clear hL3 hE3 hok3 hD3 hDok HA HD2 KE2
  go_wp2_with fail
  refine HF.out.mono ?_
  rintro e w4 ⟨rfl, hL4, hD4, hE4⟩
  have KE4 := Lib.hid (KE3.out.trans hE4 (fun k hk h => by
    have := HZ2.out; have := Z1.out; have := Z2.out; have := Z3.out
    rcases h with (h | h) | h
    · omega
    · omega
    · rcases h.1.1 with (h | h) | h
      · exact h.elim
      · omega
      · omega))
  have hOkp : ((awD.put 1 awS).flat).Ok := Dk.flat_Ok (by
    have := (Dk.write_Ok HDK.out ((1 : Nat) : Int) awS (by simp [awD, Dk.fresh])).1
    rw [Dk.write_put rfl rfl (by show 1 < (List.replicate 128 blank).length; simp) awS_size] at this
    exact this)
  have HRd := Lib.hid (read_calls bd _ _ w4 hD4 hOkp 1 (by omega) (by omega) awS 0 aw_read.symm)
  clear hL4 hD4 hE4 hOkp HF KE3
  go_wp2_with fail
  refine HRd.out.mono ?_
  rintro e w5 ⟨rfl, rfl⟩
  have s64 := awS_size
  have hx := aw_head
  clear HRd
  generalize awS = S at *
  go_wp2_with fail
  go_ret
  exact ⟨rfl, KE4.out⟩
end Go.Proofs.Ytdhklomnaodcnaa

namespace Go.Proofs.Ytdhklomnaodcnaa
open Go.RowKit

/-- A call, as it came in. -/
structure CallD where
  kind : Int
  text : ByteArray
  at' : Int
  raw : Bool
  ka : Option Addr
  kn : Nat
  kc : Nat
  keep : List Bool
def CallD.kv (c : CallD) : Value := .slice c.ka c.kn c.kc
structure CallD.Ok (c : CallD) : Prop where
  k0 : -9223372036854775808 ≤ c.kind
  k1 : c.kind ≤ 9223372036854775807
  t63 : c.text.size ≤ 9223372036854775000
  a0 : -9223372036854775808 ≤ c.at'
  a1 : c.at' ≤ 9223372036854775807
  kl : c.keep.length ≤ 140737488355328
theorem KeepAt.no {w w' : World} {v : Value} {ks : List Bool} (h : KeepAt w v ks) (e : Ext NoB w w') : KeepAt w' v ks := by
  rcases h with h | ⟨bk, ok, cap, rfl, hb, hc⟩
  · exact .inl h
  · refine .inr ⟨bk, ok, cap, rfl, Nat.lt_of_lt_of_le hb e.size, fun i b hi => ?_⟩
    rw [← hc i b hi]
    exact World.cell?_of_block (a := ⟨bk, ok + i, none⟩) (e.block bk hb id)
/-- K's blocks are as they were. -/
theorem KeepAt.within {K : Nat → Prop} {w w' : World} {v : Value} {ks : List Bool} (h : KeepAt w v ks) (e : Ext (fun k => ¬ K k) w w') (hK : ∀ k, k < w.heap.size → K k) : KeepAt w' v ks := by
  rcases h with h | ⟨bk, ok, cap, rfl, hb, hc⟩
  · exact .inl h
  · refine .inr ⟨bk, ok, cap, rfl, Nat.lt_of_lt_of_le hb e.size, fun i b hi => ?_⟩
    rw [← hc i b hi]
    exact World.cell?_of_block (a := ⟨bk, ok + i, none⟩) (e.block bk hb (fun h => h (hK bk hb)))
/-- The calls that came in. -/
def CallsAt (w : World) (v : Value) (cs : List CallD) : Prop :=
  (∃ base cap, v = .slice base 0 cap ∧ cs = []) ∨
  ∃ b o cap, v = .slice (some ⟨b, o, none⟩) cs.length cap ∧ b < w.heap.size ∧ ∀ i c, cs[i]? = some c →
    w.cell? ⟨b, o + i * 5, none⟩ = some (.int .i64 c.kind) ∧ w.cell? ⟨b, o + i * 5 + 1, none⟩ = some (.string c.text) ∧ w.cell? ⟨b, o + i * 5 + 2, none⟩ = some (.int .i64 c.at') ∧
    w.cell? ⟨b, o + i * 5 + 3, none⟩ = some (.bool c.raw) ∧ w.cell? ⟨b, o + i * 5 + 4, none⟩ = some c.kv ∧ KeepAt w c.kv c.keep ∧ c.Ok
theorem CallsAt.shape {w : World} {v : Value} {cs : List CallD} (h : CallsAt w v cs) : ∃ base cap, v = .slice base cs.length cap := by
  rcases h with ⟨base, cap, rfl, rfl⟩ | ⟨b, o, cap, rfl, _⟩
  · exact ⟨base, cap, rfl⟩
  · exact ⟨_, cap, rfl⟩

theorem St.start {w w1 w2 w3 w4 w5 : World} {bl bd rl rd : Nat} {L : Lg} {D : Dk} (E1 : Ext NoB w w1) (E2 : Ext NoB w1 w2) (E3 : Ext NoB w2 w3) (hz : w3.heap.size ≤ bl)
    (hL : LogAt w4 bl L bd (fun k => k = bl)) (hD : DiskAt w4 bd D (fun k => Fsh (Lt (Fsh NoB w1) w2) w3 k ∧ k ≠ bl)) (E4 : Ext (Lt (Fsh NoB w1) w2) w3 w4) (hz' : w4.heap.size ≤ rl)
    (hL' : RLogAt w5 rl L rd (fun k => k = rl)) (hD' : RDiskAt w5 rd D (fun k => Fsh (Lt (Fsh NoB w2) w3) w4 k ∧ k ≠ rl)) (E5 : Ext (Lt (Fsh NoB w2) w3) w4 w5) :
    St (fun k => k < w.heap.size) w w5 bl bd rl rd L D L D := by
  have z1 := E1.size
  have z2 := E2.size
  have z3 := E3.size
  have z4 := E4.size
  have oA : Off (fun k => k = bl) (Lt (Fsh NoB w2) w3) := fun k ha hx => by have := hx.2; omega
  have oB : Off (fun k => Fsh (Lt (Fsh NoB w1) w2) w3 k ∧ k ≠ bl) (Lt (Fsh NoB w2) w3) := fun k hb hx => by
    have h2 := hx.2
    have h1 : w2.heap.size ≤ k := hx.1.elim (fun h => h.elim) id
    rcases hb.1 with h | h
    · have := h.2; omega
    · omega
  refine ⟨_, _, _, _, hL.keep E5 oA, hD.keep E5 oB, hL', hD', ?_, ?_, ?_, ?_, ?_, ?_, ?_, ?_, ?_, ?_, fun k h => h, ?_⟩
  · exact fun k ha hb => hb.1.2 ha.1
  · exact fun k ha hc => by have := ha.2; omega
  · exact fun k ha he => he.1.elim (fun h => oA k ha.1 h) (fun h => by have := ha.2; omega)
  · exact fun k hb hc => by have := hb.2; omega
  · exact fun k hb he => he.1.elim (fun h => oB k hb.1 h) (fun h => by have := hb.2; omega)
  · exact fun k hc he => he.2 hc
  · exact fun k ha hk => by have := ha.1; omega
  · exact fun k hb hk => hb.1.1.elim (fun h => h.1.elim (fun h => h.elim) (fun h => by omega)) (fun h => by omega)
  · exact fun k hc hk => by omega
  · exact fun k he hk => he.1.elim (fun h => h.1.elim (fun h => h.elim) (fun h => by omega)) (fun h => by omega)
  · refine ((((E1.trans E2 (fun _ _ h => h)).trans E3 (fun _ _ h => h)).trans E4 (fun k hk h => ?_)).trans E5 (fun k hk h => ?_)).mono (fun k _ h => h.elim)
    · exact h.1.elim (fun h => h.elim) (fun h => by omega)
    · exact h.1.elim (fun h => h.elim) (fun h => by omega)

/-- What holds of the log and the device behind i calls. -/
structure Good (first n size i : Nat) (L : Lg) (D : Dk) : Prop where
  log : L.Ok
  disk : D.Ok
  calm : D.Calm
  first : L.first = first
  n : L.n = n
  size : D.firm.length = size
  fin : L.fin ≤ 2199023255552 + 65538 * i
theorem Good.mono {first n size i j : Nat} {L : Lg} {D : Dk} (h : Good first n size i L D) (hij : i ≤ j) : Good first n size j L D := by
  obtain ⟨a, b, c, d, e, f, g⟩ := h
  exact ⟨a, b, c, d, e, f, by omega⟩
theorem Good.append {first n size i : Nat} {L : Lg} {D : Dk} (h : Good first n size i L D) (hi : i ≤ 35184372088832) (r : ByteArray) : Good first n size (i + 1) (L.append r).2 D := by
  obtain ⟨a, b, c, d, e, f, g⟩ := h
  have hg := Lg.append_good a r (by omega)
  generalize (L.append r).2 = L' at *
  obtain ⟨h1, h2, h3, h4⟩ := hg
  have hfin : L'.fin ≤ 2199023255552 + 65538 * (i + 1) := by
    rw [Nat.mul_succ, ← Nat.add_assoc]
    exact Nat.le_trans h4 (Nat.add_le_add_right g 65538)
  exact ⟨h1, b, c, h2.trans d, h3.trans e, f, hfin⟩
theorem Good.flush {first n size i : Nat} {L : Lg} {D : Dk} (h : Good first n size i L D) (hr : first + n ≤ size) (t : Int) : Good first n size (i + 1) (L.flush D t).2.1 (L.flush D t).2.2 := by
  obtain ⟨a, b, c, d, e, f, g⟩ := h
  obtain ⟨h1, h2, h3, h4, h5, h6, h7⟩ := Lg.flush_good a b c (by omega) t
  exact ⟨h1, h5, h7, h2.trans d, h3.trans e, h6.trans f, by omega⟩
theorem Good.cut {first n size i : Nat} {L : Lg} {D : Dk} (h : Good first n size i L D) {a k : Nat} (hc : L.CutOk a k) : Good first n size (i + 1) (L.cutAt a k) D := by
  obtain ⟨h1, b, c, d, e, f, g⟩ := h
  exact ⟨Lg.cutAt_Ok h1 hc, b, c, d, e, f, by show L.fin ≤ _; omega⟩
theorem Good.fuel {first n size i : Nat} {L : Lg} {D : Dk} (h : Good first n size i L D) (t : Int) (ht : t ≤ 9223372036854775807) : Good first n size (i + 1) L (D.fueled t) := by
  obtain ⟨h1, b, c, d, e, f, g⟩ := h
  obtain ⟨k1, k2, k3⟩ := Dk.fueled_good b c t ht
  exact ⟨h1, k1, k3, d, e, k2.trans f, by omega⟩
theorem Good.reopened {first n size i : Nat} {D : Dk} (hD : D.Ok) (hs : D.firm.length = size) (ks : List Bool) (start : Nat) (hr : RingOk size first n) (h5 : size ≤ 5000) (h54 : 54 ≤ start) (h40 : start ≤ 1099511627776) :
    Good first n size i (opened (D.crash ks).firm first n start) ((opened (D.crash ks).firm first n start).wipes n 0 (D.crash ks)).flat := by
  obtain ⟨r1, r2, r3, r4⟩ := hr
  obtain ⟨c1, c2⟩ := Dk.crash_Ok hD ks
  have hok := opened_Ok (D.crash ks).firm first n start (by omega) (by omega) (by omega) h54 h40
  have hn : (opened (D.crash ks).firm first n start).n = n := rfl
  have hf : (opened (D.crash ks).firm first n start).first = first := rfl
  obtain ⟨g1, g2, g3⟩ := reopened_good (L := opened (D.crash ks).firm first n start) c1 rfl rfl (by rw [hn, hf]; omega) rfl (by rw [hn]; omega)
  rw [hn] at g1 g2 g3
  have := opened_fin (D.crash ks).firm first n start (by omega)
  exact ⟨hok, g1, g3, hf, hn, g2.trans (c2.trans hs), by omega⟩
theorem Dk.crash_fresh (D : Dk) (ks : List Bool) : D.crash ks = Dk.fresh (D.crash ks).firm := rfl
theorem Good.start (first n size : Nat) (h1 : 128 ≤ n) (h2 : n ≤ 4096) (h3 : first + n ≤ size) (h4 : size ≤ 5000) : Good first n size 0 (Lg.new first n) (Dk.fresh (List.replicate size blank)) :=
  ⟨Lg.new_Ok first n h1 h2 (by omega), Dk.fresh_Ok (by simpa using h4) (fun s h => by rw [(List.mem_replicate.1 h).2]; rfl), by simp [Dk.Calm, Dk.fresh], rfl, rfl, by simp [Dk.fresh], by simp [Lg.new]⟩
/-- Is it a place to cut at? -/
theorem Lg.cut_cases (L : Lg) (t : Int) : (∃ a k : Nat, t = (a : Int) ∧ L.CutOk a k) ∨ ((L.firm : Int) < t ∨ (t ≠ L.fin ∧ ∀ p ∈ L.list, (p.1 : Int) ≠ t)) := by
  by_cases h1 : (L.firm : Int) < t
  · exact .inr (.inl h1)
  · by_cases h2 : t = L.fin
    · exact .inl ⟨L.fin, L.list.length, h2, by omega, .inl ⟨rfl, rfl⟩⟩
    · by_cases h3 : ∀ p ∈ L.list, (p.1 : Int) ≠ t
      · exact .inr (.inr ⟨h2, h3⟩)
      · have h3' : ∃ p ∈ L.list, (p.1 : Int) = t := by
          apply Classical.byContradiction
          intro hn
          exact h3 (fun p hp he => hn ⟨p, hp, he⟩)
        obtain ⟨p, hp, he⟩ := h3'
        obtain ⟨k, hk, hkp⟩ := List.getElem_of_mem hp
        exact .inl ⟨p.1, k, he.symm, by omega, .inr ⟨hk, by rw [hkp]⟩⟩
end Go.Proofs.Ytdhklomnaodcnaa
