/- WalRuns: the walk. -/
import Derived.Test.YtdhklomnaodcnaaRun0
import Derived.Deep.CutBlock
import Derived.Deep.DeepCutAuto
import Derived.Deep.LoopGhost
import Derived.Deep.QuietTactic
import Derived.BigQuiet
import Derived.StillTailTactics
import Derived.Deep.RegionHeld3
namespace Go.Proofs.Ytdhklomnaodcnaa
open Go.RowKit

set_option maxHeartbeats 16000000 in
set_option maxRecDepth 100000 in
theorem runs_calls (size first n : Int) (v : Value) (cs : List CallD) (w : World) (hv : CallsAt w v cs) (hcl : cs.length ≤ 35184372088832)
    (s0 : -9223372036854775808 ≤ size) (s1 : size ≤ 9223372036854775807) (f0 : -9223372036854775808 ≤ first) (f1 : first ≤ 9223372036854775807) (m0 : -9223372036854775808 ≤ n) (m1 : n ≤ 9223372036854775807) :
    Calls Try.prog 3 #[.agg #[.int .i64 size, .int .i64 first, .int .i64 n], v] w fun e w' => e = .returned (.bool true) ∧ Ext NoB w w' := by
  have HV := Lib.hid hv
  obtain ⟨vb, vc, rfl⟩ := hv.shape
  have HA := Lib.hid awake_calls
  have E0 := Lib.hid ((Ext.refl NoB w).alloc (.cells #[.int .i64 size, .int .i64 first, .int .i64 n] 23))
  clear hv
  go_enter Try.func3, Try.ntmps3
  go_wp2_with fail
  go_quiet (fail)
  have E1 : Ext NoB w ((w.alloc (.cells #[.int .i64 size, .int .i64 first, .int .i64 n] 23)).drewN nq) := E0.out.drewN nq
  obtain ⟨W1, hW1⟩ : ∃ x, (w.alloc (.cells #[.int .i64 size, .int .i64 first, .int .i64 n] 23)).drewN nq = x := ⟨_, rfl⟩
  rw [hW1] at E1 ⊢
  clear hW1 E0
  go_wp2_with fail
  refine (HA.out _).mono ?_
  rintro e W2 ⟨rfl, hE2⟩
  have E2 : Ext NoB w W2 := E1.trans hE2 (fun _ _ h => h)
  clear hE2 E1 HA
  by_cases hs1 : size < 1
  · have hb : decide (size < 1) = true := decide_eq_true hs1
    go_wp2_with fail
    go_ret
    exact ⟨rfl, E2⟩
  have hb1 : decide (size < 1) = false := decide_eq_false hs1
  by_cases hs2 : 5000 < size
  · have hb2 : decide (5000 < size) = true := decide_eq_true hs2
    go_wp2_with fail
    go_ret
    exact ⟨rfl, E2⟩
  have hb2 : decide (5000 < size) = false := decide_eq_false hs2
  obtain ⟨sz, rfl⟩ : ∃ k : Nat, size = (k : Int) := ⟨size.toNat, by omega⟩
  have hz1 : 1 ≤ sz := by omega
  have hz2 : sz ≤ 5000 := by omega
  have HN := Lib.hid (new_calls sz hz1 hz2 W2)
  go_wp2_with fail
  refine HN.out.mono ?_
  rintro e W3 ⟨rfl, hD3, hE3⟩
  obtain ⟨bd, hbd⟩ : ∃ x, W2.heap.size = x := ⟨_, rfl⟩
  rw [hbd] at hD3 ⊢
  have HD3 := Lib.hid hD3
  have HE3 := Lib.hid hE3
  have HRN := Lib.hid (rnew_calls sz hz2 W3)
  clear hD3 hE3 HN hbd
  go_wp2_with fail
  refine HRN.out.mono ?_
  rintro e W4 ⟨rfl, hD4, hE4⟩
  obtain ⟨rd, hrd⟩ : ∃ x, W3.heap.size = x := ⟨_, rfl⟩
  rw [hrd] at hD4 ⊢
  have HD4 := Lib.hid hD4
  have HE4 := Lib.hid hE4
  have KD3 := Lib.hid (HD3.out.keep hE4 (fun _ _ => id))
  clear hD4 hE4 HRN hrd HD3
  by_cases hr : RingOk sz first n
  case neg =>
    have HC := Lib.hid (create_no bd sz _ _ W4 KD3.out (by simp [Dk.fresh]) hz2 first n hr)
    have HR := Lib.hid (fun w => rring_calls sz hz2 first n w)
    rw [decide_eq_false hr] at HR
    have E4 := Lib.hid ((E2.trans HE3.out (fun _ _ h => h)).trans HE4.out (fun _ _ h => h))
    clear hr
    go_wp2_with fail
    refine HC.out.mono ?_
    rintro e W5 ⟨rfl, rfl⟩
    go_wp2_with fail
    refine (HR.out _).mono ?_
    rintro e W5 ⟨rfl, rfl⟩
    go_wp2_with fail
    go_ret
    exact ⟨rfl, E4.out⟩
  case pos =>
    obtain ⟨r1, r2, r3, r4⟩ := hr
    obtain ⟨fi, rfl⟩ : ∃ k : Nat, first = (k : Int) := ⟨first.toNat, by omega⟩
    obtain ⟨nn, rfl⟩ : ∃ k : Nat, n = (k : Int) := ⟨n.toNat, by omega⟩
    have HRO : Hid (RingOk sz fi nn) := ⟨r1, r2, r3, r4⟩
    have q1 : 128 ≤ nn := by omega
    have q2 : nn ≤ 4096 := by omega
    have q3 : fi + nn ≤ sz := by omega
    have HC := Lib.hid (create_yes bd sz _ W4 KD3.out hz2 fi nn HRO.out)
    have HR := Lib.hid (fun w => rring_calls sz hz2 fi nn w)
    rw [decide_eq_true HRO.out] at HR
    clear r1 r2 r3 r4 s0 s1 f0 f1 m0 m1 hs1 hs2
    go_wp2_with fail
    refine HC.out.mono ?_
    rintro e W5 ⟨bl, rfl, hz5, hL5, hD5, hE5⟩
    have HG := Lib.hid (rcreate_yes rd sz _ W5 (HD4.out.keep hE5 (fun k h hx => by have := hx.2; exact h.elim (fun h => h.elim) (fun h => by omega))) hz2 fi nn HRO.out)
    have HL5 := Lib.hid hL5
    have HD5 := Lib.hid hD5
    have HE5 := Lib.hid hE5
    have HZ5 := Lib.hid hz5
    clear hL5 hD5 hE5 hz5 HC
    go_wp2_with fail
    refine (HR.out _).mono ?_
    rintro e W6 ⟨rfl, rfl⟩
    go_wp2_with fail
    refine HG.out.mono ?_
    rintro e W6 ⟨rl, rfl, hz6, hL6, hD6, hE6⟩
    have hS := St.start E2 HE3.out HE4.out HZ5.out HL5.out HD5.out HE5.out hz6 hL6 hD6 hE6
    have HS := Lib.hid hS
    clear hz6 hL6 hD6 hE6 hS HG HR HL5 HD5 HE5 HZ5 HD4 HE4 HE3 KD3
    go_wp2_with fail
    go_loopg [8, 10, 11, 13, 89] cs.length (fun k v8 v10 v11 v13 v89 wr => ∃ (i bd rd bl rl : Nat) (L : Lg) (D : Dk), v8 = .pointer (some ⟨bd, 0, none⟩) ∧ v10 = .pointer (some ⟨rd, 0, none⟩) ∧ v11 = .pointer (some ⟨bl, 0, none⟩) ∧ v13 = .pointer (some ⟨rl, 0, none⟩) ∧ v89 = .int .i64 i ∧ i + k = cs.length ∧ St (fun k => k < w.heap.size) w wr bl bd rl rd L D L D ∧ Good fi nn sz i L D)
    case atStart => exact ⟨0, bd, rd, bl, rl, _, _, rfl, rfl, rfl, rfl, rfl, Nat.zero_add _, HS.out, Good.start fi nn sz q1 q2 q3 hz2⟩
    case round =>
      obtain ⟨i, bd, rd, bl, rl, L, D, rfl, rfl, rfl, rfl, rfl, hik, hSt, hGood⟩ := hrel
      have KS := Lib.hid hSt
      have KG := Lib.hid hGood
      clear hSt hGood HS
      by_cases hlt : i < cs.length
      · have hltb : decide ((i : Int) < (cs.length : Int)) = true := by simp; omega
        have w1' : IntKind.i64.wrap ((i : Int) + 1) = (i : Int) + 1 := IntWalk.i64_in _ (by omega)
        obtain ⟨c, hc⟩ : ∃ c, cs[i]? = some c := ⟨cs[i], List.getElem?_eq_getElem hlt⟩
        obtain ⟨cb, co, cap, hvv, hcb, hcells⟩ : ∃ b o cap, Value.slice vb cs.length vc = .slice (some ⟨b, o, none⟩) cs.length cap ∧ b < w.heap.size ∧ ∀ i c, cs[i]? = some c →
            w.cell? ⟨b, o + i * 5, none⟩ = some (.int .i64 c.kind) ∧ w.cell? ⟨b, o + i * 5 + 1, none⟩ = some (.string c.text) ∧ w.cell? ⟨b, o + i * 5 + 2, none⟩ = some (.int .i64 c.at') ∧
            w.cell? ⟨b, o + i * 5 + 3, none⟩ = some (.bool c.raw) ∧ w.cell? ⟨b, o + i * 5 + 4, none⟩ = some c.kv ∧ KeepAt w c.kv c.keep ∧ c.Ok := by
          rcases HV.out with ⟨_, _, _, rfl⟩ | h
          · simp at hlt
          · exact h
        cases hvv
        obtain ⟨e0, e1, e2, e3, e4, hkeep, hcok⟩ := hcells i c hc
        have hSE := KS.out.ext
        have old : ∀ j, wr.cell? ⟨cb, j, none⟩ = w.cell? ⟨cb, j, none⟩ := fun j => World.cell?_of_block (a := ⟨cb, j, none⟩) (hSE.block cb hcb (fun h => h hcb))
        rw [← old] at e0 e1 e2 e3 e4
        obtain ⟨kind, text, at', raw, ka, kn, kc, keep⟩ := c
        dsimp only [CallD.kv] at e0 e1 e2 e3 e4 hkeep
        have HKP0 := Lib.hid hkeep
        have HCOK := Lib.hid hcok
        have HC := Lib.hid hc
        obtain ⟨g, hg⟩ : ∃ x, wr.heap.size = x := ⟨_, rfl⟩
        have HB0 := Blk.new wr [.int .i64 kind, .string text, .int .i64 at', .bool raw, .slice ka kn kc] 41
        rw [hg] at HB0
        have X0 : Ext NoB wr (wr.alloc (.cells #[.int .i64 kind, .string text, .int .i64 at', .bool raw, .slice ka kn kc] 41)) := (Ext.refl NoB wr).alloc _
        have hgw : w.heap.size ≤ g := by rw [← hg]; exact hSE.size
        have hS1 := KS.out.anew (K' := fun k => k < w.heap.size ∨ k = g) X0 (fun k hk => hk.imp id (fun h => by omega)) (fun k hk => by have := hSE.size; simp; omega)
        have hE0 : Ext (fun k => ¬ k < w.heap.size) w (wr.alloc (.cells #[.int .i64 kind, .string text, .int .i64 at', .bool raw, .slice ka kn kc] 41)) := hSE.alloc _
        have KS1 := Lib.hid hS1
        have KB0 := Lib.hid HB0
        have KE0 := Lib.hid hE0
        clear old hcells hc hkeep hcok HB0 hS1 hE0 hSE
        go_upto_region 17 with (fail)
        obtain ⟨W, hW⟩ : ∃ x, wr.alloc (.cells #[.int .i64 kind, .string text, .int .i64 at', .bool raw, .slice ka kn kc] 41) = x := ⟨_, rfl⟩
        rw [hW] at KS1 KB0 KE0 ⊢
        have HGW := Lib.hid hgw
        clear e0 e1 e2 e3 e4 hW hg X0 KS hgw
        obtain ⟨K', hK'⟩ : ∃ x : Nat → Prop, (fun k => k < w.heap.size ∨ k = g) = x := ⟨_, rfl⟩
        have hK1 : ∀ k, k < w.heap.size → K' k := fun k h => by rw [← hK']; exact .inl h
        have hK2 : K' g := by rw [← hK']; exact .inr rfl
        rw [hK'] at KS1
        have HK1 := Lib.hid hK1
        have CG : Hid (∀ w', Ext (fun k => ¬ K' k) W w' → Blk w' g [.int .i64 kind, .string text, .int .i64 at', .bool raw, .slice ka kn kc] 41) := fun w' e => KB0.out.ext e (fun h => h hK2)
        have CE : Hid (∀ w', Ext (fun k => ¬ K' k) W w' → Ext (fun k => ¬ k < w.heap.size) w w') := fun w' e => KE0.out.trans e (fun k _ h hk => h (hK1 k hk))
        have HKP : Hid (∀ w', Ext (fun k => ¬ K' k) W w' → KeepAt w' (.slice ka kn kc) keep) := fun w' e => HKP0.out.within (CE.out w' e) (fun _ h => h)
        clear hK' hK1 hK2 HKP0
        have e0 := KB0.out.cell (i := 0) rfl
        have e1 := KB0.out.cell (i := 1) rfl
        have e2 := KB0.out.cell (i := 2) rfl
        have e3 := KB0.out.cell (i := 3) rfl
        have e4 := KB0.out.cell (i := 4) rfl
        have hpl := KS1.out.place KG.out.log kind text at' raw (.slice ka kn kc) HCOK.out.a0 HCOK.out.a1
        obtain ⟨pl, hpp⟩ : ∃ x, L.place at' raw = x := ⟨_, rfl⟩
        have hplb := Lg.place_bound KG.out.log at' raw HCOK.out.a0 HCOK.out.a1
        rw [hpp] at hpl hplb
        obtain ⟨pl0, pl1⟩ := hplb
        have HPL := Lib.hid hpl
        clear hpl hpp
        go_wp2_with fail
        refine HPL.out.mono ?_
        rintro e w2 ⟨rfl, hX2⟩
        have KS2 := Lib.hid (KS1.out.of hX2)
        have hB2 := CG.out w2 (KS2.out.ext)
        have d0 := hB2.cell (i := 0) rfl
        clear e0 e1 e2 e3 e4 hX2 HPL KS1 hB2
        go_upto_block 2 with (fail)
        go_cut [8, 10, 11, 13] (fun v8 v10 v11 v13 wx => ∃ (bd rd bl rl : Nat) (L' : Lg) (D' : Dk), v8 = .pointer (some ⟨bd, 0, none⟩) ∧ v10 = .pointer (some ⟨rd, 0, none⟩) ∧ v11 = .pointer (some ⟨bl, 0, none⟩) ∧ v13 = .pointer (some ⟨rl, 0, none⟩) ∧ St K' W wx bl bd rl rd L' D' L' D' ∧ Good fi nn sz (i + 1) L' D')
        case first => as_aux_lemma =>
          have hi45 : i ≤ 35184372088832 := by omega
          have hfin : L.fin ≤ 4611686018427300000 := by have := KG.out.fin; omega
          have hB2 := CG.out w2 (KS2.out.ext)
          have d1 := hB2.cell (i := 1) rfl
          have d2 := hB2.cell (i := 2) rfl
          have d3 := hB2.cell (i := 3) rfl
          clear hB2
          by_cases k0 : kind = 0
          · as_aux_lemma =>
            subst k0
            obtain ⟨a, c, L', hap⟩ : ∃ a c L', L.append text = ((a, c), L') := ⟨_, _, _, rfl⟩
            have hg := KG.out.append hi45 text
            rw [hap] at hg
            have HG := Lib.hid hg
            have HA1 := Lib.hid (KS2.out.append KG.out.log hfin text HCOK.out.t63 a c hap)
            have HA2 := Lib.hid (fun w3 (h : St K' W w3 bl bd rl rd L' D L D) => h.rappend KG.out.log hfin text HCOK.out.t63 a c hap)
            clear hap hg
            go_wp2_with fail
            refine HA1.out.mono ?_
            rintro e w3 ⟨rfl, hS3⟩
            have f1 := (CG.out w3 hS3.ext).cell (i := 1) rfl
            have HA3 := Lib.hid (HA2.out w3 hS3)
            clear hS3 HA2 HA1
            go_wp2_with fail
            refine HA3.out.mono ?_
            rintro e w4 ⟨rfl, hS4⟩
            have KS4 := Lib.hid hS4
            clear hS4
            go_wp2_with fail
            go_meet
            exact ⟨bd, rd, bl, rl, L', D, rfl, rfl, rfl, rfl, KS4.out, HG.out⟩
          have b0 : (kind == 0) = false := by simp [k0]
          by_cases k1 : kind = 1
          · as_aux_lemma =>
            subst k1
            obtain ⟨c, L', D', hfl⟩ : ∃ c L' D', L.flush D pl = (c, L', D') := ⟨_, _, _, rfl⟩
            have hg := KG.out.flush q3 pl
            rw [hfl] at hg
            have HG := Lib.hid hg
            have hsf : D.soft.length ≤ 990000 := by have := KG.out.calm.1; omega
            have hn0 : 0 < D.firm.length := by rw [KG.out.size]; omega
            have HF1 := Lib.hid (KS2.out.flush KG.out.log KG.out.disk hn0 hsf pl pl0 pl1 c hfl)
            have HF2 := Lib.hid (fun w3 (h : St K' W w3 bl bd rl rd L' D' L D) => h.rflush KG.out.log KG.out.disk hsf pl pl0 pl1 c hfl)
            clear hfl hg hsf hn0 b0 k0
            go_wp2_with fail
            refine HF1.out.mono ?_
            rintro e w3 ⟨rfl, hS3⟩
            have HF3 := Lib.hid (HF2.out w3 hS3)
            clear hS3 HF2 HF1
            go_wp2_with fail
            refine HF3.out.mono ?_
            rintro e w4 ⟨rfl, hS4⟩
            have KS4 := Lib.hid hS4
            clear hS4
            go_wp2_with fail
            go_meet
            exact ⟨bd, rd, bl, rl, L', D', rfl, rfl, rfl, rfl, KS4.out, HG.out⟩
          have b1 : (kind == 1) = false := by simp [k1]
          by_cases k2 : kind = 2
          · as_aux_lemma =>
            subst k2
            obtain ⟨s, c, hrd⟩ : ∃ s c, L.read pl = (s, c) := ⟨_, _, rfl⟩
            have HF1 := Lib.hid (KS2.out.read KG.out.log pl pl0 pl1 s c hrd)
            have HF2 := Lib.hid (fun w3 (h : St K' W w3 bl bd rl rd L D L D) => h.rread KG.out.log pl pl0 pl1 s c hrd)
            have hb1' : (s == s) = true := (Go.MapKept.bytes_beq s s).2 rfl
            have hb2' : (s != s) = false := by unfold bne; rw [hb1']; rfl
            clear hrd b0 k0 b1 k1
            go_wp2_with fail
            refine HF1.out.mono ?_
            rintro e w3 ⟨rfl, hS3⟩
            have HF3 := Lib.hid (HF2.out w3 hS3)
            clear hS3 HF2 HF1
            go_wp2_with fail
            refine HF3.out.mono ?_
            rintro e w4 ⟨rfl, hS4⟩
            have KS4 := Lib.hid hS4
            clear hS4
            go_wp2_with fail
            go_meet
            exact ⟨bd, rd, bl, rl, L, D, rfl, rfl, rfl, rfl, KS4.out, KG.out.mono (by omega)⟩
          have b2 : (kind == 2) = false := by simp [k2]
          by_cases k3 : kind = 3
          · as_aux_lemma =>
            subst k3
            rcases L.cut_cases pl with ⟨a, k, rfl, hcut⟩ | hno
            · as_aux_lemma =>
              have HG := Lib.hid (KG.out.cut hcut)
              have HF1 := Lib.hid (KS2.out.cut_yes KG.out.log a k hcut)
              have HF2 := Lib.hid (fun w3 (h : St K' W w3 bl bd rl rd (L.cutAt a k) D L D) => h.rcut_yes KG.out.log a k hcut)
              clear hcut b0 k0 b1 k1 b2 k2
              go_wp2_with fail
              refine HF1.out.mono ?_
              rintro e w3 ⟨rfl, hS3⟩
              have HF3 := Lib.hid (HF2.out w3 hS3)
              clear hS3 HF2 HF1
              go_wp2_with fail
              refine HF3.out.mono ?_
              rintro e w4 ⟨rfl, hS4⟩
              have KS4 := Lib.hid hS4
              clear hS4
              go_wp2_with fail
              go_meet
              exact ⟨bd, rd, bl, rl, _, D, rfl, rfl, rfl, rfl, KS4.out, HG.out⟩
            · as_aux_lemma =>
              have HF1 := Lib.hid (KS2.out.cut_no KG.out.log pl pl0 pl1 hno)
              have HF2 := Lib.hid (fun w3 (h : St K' W w3 bl bd rl rd L D L D) => h.rcut_no KG.out.log pl pl0 pl1 hno)
              clear hno b0 k0 b1 k1 b2 k2
              go_wp2_with fail
              refine HF1.out.mono ?_
              rintro e w3 ⟨rfl, hS3⟩
              have HF3 := Lib.hid (HF2.out w3 hS3)
              clear hS3 HF2 HF1
              go_wp2_with fail
              refine HF3.out.mono ?_
              rintro e w4 ⟨rfl, hS4⟩
              have KS4 := Lib.hid hS4
              clear hS4
              go_wp2_with fail
              go_meet
              exact ⟨bd, rd, bl, rl, L, D, rfl, rfl, rfl, rfl, KS4.out, KG.out.mono (by omega)⟩
          have b3 : (kind == 3) = false := by simp [k3]
          by_cases k4 : kind = 4
          · as_aux_lemma =>
            subst k4
            have HG := Lib.hid (KG.out.fuel at' HCOK.out.a1)
            have HF1 := Lib.hid (KS2.out.fuel at' HCOK.out.a0 HCOK.out.a1)
            have hmx : ∀ w, (Builtin.max_ #[3, 3] 3 #[.int .i64 at', .int .i64 (-1)]).run Try.prog w = .ok (.int .i64 (max at' (-1))) w := fun w => by
              have e : max at' (-1) = if at' < -1 then -1 else at' := by omega
              rw [e]
              simp [Builtin.max_, Builtin.max2]
            clear b0 k0 b1 k1 b2 k2 b3 k3
            go_wp2_with fail
            refine HF1.out.mono ?_
            rintro e w3 ⟨rfl, hS3⟩
            have f2 := (CG.out w3 hS3.ext).cell (i := 2) rfl
            obtain ⟨g1, g2, hS4⟩ := hS3.rfuel at'
            have KS4 := Lib.hid hS4
            clear hS3 hS4 HF1
            go_wp2_with fail
            go_meet
            exact ⟨bd, rd, bl, rl, L, _, rfl, rfl, rfl, rfl, KS4.out, HG.out⟩
          have b4 : (kind == 4) = false := by simp [k4]
          by_cases k5 : kind = 5
          · as_aux_lemma =>
            subst k5
            clear b0 k0 b1 k1 b2 k2 b3 k3 b4 k4
            have st : ∃ x : Int, (if raw = true then at' else (L.start : Int)) = x := ⟨_, rfl⟩
            obtain ⟨st, hst⟩ := st
            have cst := KS2.out.startCell
            have HST := Lib.hid hst
            have hkl := HCOK.out.kl
            clear hst
            go_upto_if 181 with (fail)
            go_cut [26] (fun v26 wx => v26 = .int .i64 st ∧ wx = w2)
            case first => as_aux_lemma =>
              cases raw with
              | true =>
                have hs : st = at' := by have := HST.out; simpa using this.symm
                subst hs
                go_wp2_with fail
                go_meet
                exact ⟨rfl, rfl⟩
              | false =>
                have hs : st = (L.start : Int) := by have := HST.out; simpa using this.symm
                subst hs
                go_wp2_with fail
                go_meet
                exact ⟨rfl, rfl⟩
            case rest =>
            as_aux_lemma =>
            obtain ⟨rfl, rfl⟩ := hcut
            have c4 := fun w' (e : Ext (fun k => ¬ K' k) W w') => (CG.out w' e).cell (i := 4) rfl
            have hE2 := KS2.out.ext
            have hE2d := hE2.drew
            have HCr := Lib.hid ((KS2.out.of ((Ext.refl NoB wc).drew)).crash KG.out.disk (.slice ka kn kc) keep (HKP.out _ hE2d) hkl)
            clear d1 d2 d3 d0 cst
            go_upto_region 42 with (fail)
            go_region_held3 (fun w' => Ext (fun k => ¬ K' k) W w') (assumption) (first
              | (go_at_call 20; (with_reducible refine HCr.out.mono ?_); rintro e w3 ⟨b', rfl, hS3⟩; have hE3 : Ext (fun k => ¬ K' k) W w3 := hS3.ext)
              | (go_at_call 21; (with_reducible refine (hS3.rcrash KG.out.disk (.slice ka kn kc) keep (HKP.out _ hE3) hkl).mono ?_); rintro e w4 ⟨r', rfl, hS4⟩; have hE4 : Ext (fun k => ¬ K' k) W w4 := hS4.ext))
            have KS4 := Lib.hid hS4
            have KE4 := Lib.hid (CE.out _ hE4)
            clear hS3 hE3 hS4 hE4 hE2 hE2d HCr c4
            obtain ⟨S, hS⟩ : ∃ x, (D.crash keep).firm = x := ⟨_, rfl⟩
            have hSl : S.length = sz := by rw [← hS]; exact (Dk.crash_Ok KG.out.disk keep).2.trans KG.out.size
            have hSok : (Dk.fresh S).Ok := by rw [← hS]; exact (Dk.crash_Ok KG.out.disk keep).1
            have KS4 : Hid (St2 K' W w4 b' rl rd r' (Dk.fresh S) L (Dk.fresh S)) := by have := KS4.out; rw [Dk.crash_fresh, hS] at this; exact this
            have HRF := Lib.hid (fun (start : Int) (hb : start < 54 ∨ 1099511627776 < start) => KS4.out.refused (size := sz) (show (Dk.fresh S).firm.length = sz from hSl) hz2 fi nn start HRO.out hb)
            have HRg := Lib.hid (KS4.out.ringed hSok fi nn (by omega) (by omega))
            have cst := KS4.out.startCell
            have hs54 := KG.out.log.s54
            obtain ⟨st2, hst2⟩ : ∃ x : Nat, (if st < 54 ∨ 1099511627776 < st then L.start else st.toNat) = x := ⟨_, rfl⟩
            have HST2 := Lib.hid hst2
            have hg := fun h54 h40 => Good.reopened (first := fi) (n := nn) (size := sz) (i := i + 1) KG.out.disk KG.out.size keep st2 HRO.out hz2 h54 h40
            rw [Dk.crash_fresh, hS] at hg
            have HGd := Lib.hid hg
            have HSL := Lib.hid hSl
            have HSO := Lib.hid hSok
            clear hst2 hS hg hSl hSok
            obtain ⟨bad, hbad⟩ : ∃ x, decide (st < 54 ∨ 1099511627776 < st) = x := ⟨_, rfl⟩
            have HBAD := Lib.hid hbad
            clear hbad
            go_upto_region 43 with (fail)
            go_cut [197] (fun v197 wx => v197 = .bool bad ∧ wx = w4)
            case first => as_aux_lemma =>
              by_cases hb1' : st < 54
              · have p1 : decide (st < 54) = true := decide_eq_true hb1'
                have hs2 : bad = true := by rw [← HBAD.out]; exact decide_eq_true (.inl hb1')
                subst hs2
                go_wp2_with fail
                go_meet
                exact ⟨rfl, rfl⟩
              · have p1 : decide (st < 54) = false := decide_eq_false hb1'
                by_cases hb2' : 1099511627776 < st
                · have p2 : decide (1099511627776 < st) = true := decide_eq_true hb2'
                  have hs2 : bad = true := by rw [← HBAD.out]; exact decide_eq_true (.inr hb2')
                  subst hs2
                  go_wp2_with fail
                  go_meet
                  exact ⟨rfl, rfl⟩
                · have p2 : decide (1099511627776 < st) = false := decide_eq_false hb2'
                  have hs2 : bad = false := by rw [← HBAD.out]; exact decide_eq_false (fun h => h.elim hb1' hb2')
                  subst hs2
                  go_wp2_with fail
                  go_meet
                  exact ⟨rfl, rfl⟩
            case rest =>
            as_aux_lemma =>
            obtain ⟨rfl, rfl⟩ := hcut
            go_upto_if 197 with (fail)
            go_cut [26] (fun v26 wx => v26 = .int .i64 st2 ∧ wx = wc)
            case first => as_aux_lemma =>
              cases bad with
              | true =>
                have hb := of_decide_eq_true HBAD.out
                have hs2 : st2 = L.start := by have := HST2.out; rw [if_pos hb] at this; exact this.symm
                have HF := Lib.hid (HRF.out st hb)
                subst hs2
                clear hb
                go_wp2_with fail
                refine HF.out.mono ?_
                rintro e w5 ⟨rfl, rfl⟩
                go_wp2_with fail
                go_meet
                exact ⟨rfl, rfl⟩
              | false =>
                have hb := of_decide_eq_false HBAD.out
                have hs2 : st2 = st.toNat := by have := HST2.out; rw [if_neg hb] at this; exact this.symm
                have hs3 : st = (st2 : Int) := by omega
                subst hs3
                clear hb
                go_wp2_with fail
                go_meet
                exact ⟨rfl, rfl⟩
            case rest =>
            as_aux_lemma =>
            obtain ⟨rfl, rfl⟩ := hcut
            have hn54 : 54 ≤ st2 := by
              have := HST2.out
              split at this <;> omega
            by_cases h40 : 1099511627776 < st2
            · as_aux_lemma =>
              have p1 : decide (1099511627776 < (st2 : Int)) = true := by simp; omega
              have HF := Lib.hid (HRF.out st2 (.inr (by omega)))
              have HE := Lib.hid (KE4.out.mono (S' := NoB) (fun k hk h => absurd hk h))
              go_wp2_with fail
              refine HF.out.mono ?_
              rintro e w5 ⟨rfl, rfl⟩
              go_wp2_with fail
              refine HRg.out.mono ?_
              rintro e w5 ⟨rfl, rfl⟩
              go_wp2_with fail
              go_ret
              exact ⟨rfl, HE.out⟩
            · as_aux_lemma =>
              have p1 : decide (1099511627776 < (st2 : Int)) = false := by simp; omega
              have h40' : st2 ≤ 1099511627776 := by omega
              have hRS : RingOk S.length fi nn := by rw [HSL.out]; exact HRO.out
              have HO := Lib.hid (KS4.out.opens HSO.out fi nn st2 hRS hn54 h40')
              have HRO2 := Lib.hid (fun w5 bl vl (h : St3 K' W w5 bl b' r' (opened S fi nn st2) ((opened S fi nn st2).wipes nn 0 (Dk.fresh S)).flat (Dk.fresh S) vl) => h.ropens HSO.out fi nn st2 hRS hn54 h40')
              have HGD := Lib.hid (HGd.out hn54 h40')
              clear HRF HRg cst hRS h40 HGd
              go_wp2_with fail
              refine HO.out.mono ?_
              rintro e w5 ⟨bl2, vl, rfl, hS5⟩
              have HO2 := Lib.hid (HRO2.out w5 bl2 vl hS5)
              clear hS5 HRO2 HO
              go_wp2_with fail
              refine HO2.out.mono ?_
              rintro e w6 ⟨rl2, rfl, hS6, hO6⟩
              have KS6 := Lib.hid hS6
              have hll : 3 * (opened S fi nn st2).list.length ≤ 221184 := HGD.out.log.list_length
              obtain ⟨A, B, C, E, hP⟩ := hS6
              obtain ⟨v7, c7, o7⟩ : ∃ v7, w6.cell? ⟨rl2, 7, none⟩ = some v7 ∧ Own w6 v7 86 2 (opened S fi nn st2).list.length (softCells (opened S fi nn st2).list) := by
                obtain ⟨v, hb, k2, _⟩ := hP.rlog
                exact ⟨v, hb.cell rfl, k2⟩
              have HSm := Lib.hid (same_calls vl v7 (opened S fi nn st2).list (by omega) w6 hO6 o7)
              clear hP hO6 o7 HO2
              go_wp2_with fail
              refine HSm.out.mono ?_
              rintro e w7 ⟨rfl, m, hw7⟩
              have hS7 := KS6.out.of (w' := w7) (by rw [hw7]; exact Ext.ofDrew w6 m)
              have KS7 := Lib.hid hS7
              clear hS7 hw7 c7
              go_wp2_with fail
              go_meet
              exact ⟨b', r', bl2, rl2, _, _, rfl, rfl, rfl, rfl, KS7.out, HGD.out⟩
          · as_aux_lemma =>
            have b5 : (kind == 5) = false := by simp [k5]
            go_wp2_with fail
            go_meet
            exact ⟨bd, rd, bl, rl, L, D, rfl, rfl, rfl, rfl, KS2.out, KG.out.mono (by omega)⟩
        case rest => as_aux_lemma =>
          obtain ⟨bd', rd', bl', rl', L', D', rfl, rfl, rfl, rfl, hS, hG⟩ := hcut
          have KSc := Lib.hid hS
          have KGc := Lib.hid hG
          obtain ⟨A, B, C, E, hP⟩ := hS
          have HSp := Lib.hid (span_calls bl' bd' L' A wc hP.log)
          clear hP hG KS2 d0 KG
          go_wp2_with fail
          refine HSp.out.mono ?_
          rintro e w5 ⟨rfl, m, hw5⟩
          have hS5 := KSc.out.of (w' := w5) (by rw [hw5]; exact Ext.ofDrew wc m)
          have KS5 := Lib.hid hS5
          obtain ⟨A, B, C, E, hP⟩ := hS5
          obtain ⟨c3, c4, c5⟩ : w5.cell? ⟨rl', 3, none⟩ = some (.int .i64 L'.start) ∧ w5.cell? ⟨rl', 4, none⟩ = some (.int .i64 L'.fin) ∧ w5.cell? ⟨rl', 5, none⟩ = some (.int .i64 L'.firm) := by
            obtain ⟨_, hb, _⟩ := hP.rlog
            exact ⟨hb.cell rfl, hb.cell rfl, hb.cell rfl⟩
          obtain ⟨sb, scap, cs1⟩ : ∃ sb scap, w5.cell? ⟨rd', 1, none⟩ = some (.slice sb D'.soft.length scap) := by
            obtain ⟨vf, vs, hb, _, k2, _⟩ := hP.rdisk
            obtain ⟨base, cap, rfl, _, _⟩ := k2.shape
            exact ⟨base, cap, hb.cell rfl⟩
          have H28 := Lib.hid (fun k => room_calls bl' bd' L' A (w5.drewN k) (hP.log.ext (Ext.ofDrew w5 k) (fun _ _ _ => id)) KGc.out.log)
          have H29 := Lib.hid (fun k => rroom_calls rl' rd' L' C (w5.drewN k) (hP.rlog.ext (Ext.ofDrew w5 k) (fun _ _ _ => id)) KGc.out.log)
          have H30 := Lib.hid (fun k => pending_calls bd' D' B (w5.drewN k) (hP.disk.ext (Ext.ofDrew w5 k) (fun _ _ _ => id)))
          clear hP hw5 HSp
          go_wp2_with fail
          go_quiet (first | (go_at_call 28; exact Calls.quiet_of (H28.out _)) | (go_at_call 29; exact Calls.quiet_of (H29.out _)) | (go_at_call 30; exact quiet_w (H30.out _)))
          have hS6 := KS5.out.of (Ext.ofDrew w5 nq)
          have KS6 := Lib.hid hS6
          clear hS6 KS5 H28 H29 H30 c3 c4 c5 cs1
          go_wp2_with fail
          obtain ⟨mm, rfl⟩ : ∃ mm, gk = mm + 1 := ⟨gk - 1, by omega⟩
          go_roundg mm
          case measure => omega
          case rel => exact ⟨i + 1, bd', rd', bl', rl', L', D', rfl, rfl, rfl, rfl, by go_num, by omega, KS6.out.back HK1.out KE0.out (fun _ h => h), KGc.out⟩
      · have hltb : decide ((i : Int) < (cs.length : Int)) = false := by simp; omega
        have HRg := Lib.hid (KS.out.ringed KG.out.disk fi nn (by omega) (by omega))
        have HE := Lib.hid (KS.out.ext.mono (S' := NoB) (fun k hk h => absurd hk h))
        go_wp2_with fail
        refine HRg.out.mono ?_
        rintro e w5 ⟨rfl, rfl⟩
        go_wp2_with fail
        go_ret
        exact ⟨rfl, HE.out⟩
end Go.Proofs.Ytdhklomnaodcnaa
