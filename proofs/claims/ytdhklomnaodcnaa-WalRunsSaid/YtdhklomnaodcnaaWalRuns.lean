/- The statement: for every ring and every list of calls the log of the program answers as the document's does, call by call, behind crashes too, and leaves just those bytes in its ring; the arguments read as they did. No condition. -/
import Derived.Test.YtdhklomnaodcnaaRun0
import Derived.ProofKit
import Derived.SizedLaws
import Derived.OpenShut
import Derived.Deep.Slices
import Derived.Test.YtdhklomnaodcnaaRows
import Derived.Test.YtdhklomnaodcnaaRuns
import Derived.WalkKit
import Derived.ChangeOld
import Derived.Below
import Derived.Lib.SmallJoins

namespace Go.Proofs.Ytdhklomnaodcnaa
open Go.RowKit Go.ChangeShapes Go.WideShapes Go.ChangeAt Go.Deep

theorem cells41 : Try.prog.cellsOf 41 = 5 := by kernel_rfl
theorem cells4 : Try.prog.cellsOf 4 = 1 := by kernel_rfl
theorem cells3 : Try.prog.cellsOf 3 = 1 := by kernel_rfl
theorem cells9 : Try.prog.cellsOf 9 = 1 := by kernel_rfl
theorem cells39 : Try.prog.cellsOf 39 = 1 := by kernel_rfl
theorem bytes41 : Try.prog.bytesOf 41 = 64 := by kernel_rfl
theorem bytes4 : Try.prog.bytesOf 4 = 1 := by kernel_rfl

section
variable {H : Type} {enc : TypeId × Value → H} {W : World}

theorem choose_list {α : Type} [Inhabited α] {n : Nat} {p : Nat → α → Prop} (h : ∀ i, i < n → ∃ x, p i x) : ∃ l : List α, l.length = n ∧ ∀ i x, l[i]? = some x → p i x := by
  obtain ⟨f, hf⟩ := choose_lt h
  refine ⟨(List.range n).map f, by simp, fun i x hx => ?_⟩
  rw [List.getElem?_map] at hx
  have hi : i < n := by
    rcases Nat.lt_or_ge i n with h | h
    · exact h
    · rw [List.getElem?_eq_none (by simpa using h)] at hx; cases hx
  rw [List.getElem?_range hi] at hx
  simp at hx
  subst hx
  exact hf i hi

theorem keep_open {v : Value} {fuel : Nat} {x : DataW H × List MemPlace} (h : DataW.trod enc Try.prog W 0 (fun _ => true) true fuel 39 [v] = some x) (hw : ∀ n ∈ DataW.weights Try.prog 39 x.1, n ≤ reachBytes) :
    ∃ (ka : Option Addr) (kn kc : Nat) (keep : List Bool), v = .slice ka kn kc ∧ KeepAt W (.slice ka kn kc) keep ∧ keep.length ≤ 140737488355328 := by
  rcases open_slice1 Try.underlying39 cells4 h with ⟨hv, _⟩ | ⟨a, len, cap, m, n, V, D, Pl, hv, _, hl, hm, hmm, rfl, hx⟩
  · simp at hv
    subst hv
    exact ⟨none, 0, 0, [], rfl, .inl ⟨none, 0, rfl, rfl⟩, by simp⟩
  · simp at hv
    subst hv
    simp at hmm
    subst hmm
    obtain ⟨keep, hkl, hk⟩ := choose_list (α := Bool) (n := len) (p := fun i b => W.cell? (a.add i) = some (.bool b)) (fun i hi => by
      obtain ⟨h1, h2⟩ := hx i (by omega)
      obtain ⟨b, hb, _⟩ := DataW.trod_bool Try.underlying4 h2
      simp at hb
      exact ⟨b, by rw [h1, hb]⟩)
    refine ⟨some a, len, m, keep, rfl, ?_, ?_⟩
    · by_cases h0 : len = 0
      · subst h0
        exact .inl ⟨some a, m, rfl, List.eq_nil_of_length_eq_zero hkl⟩
      · obtain ⟨h1, _⟩ := hx 0 (by omega)
        obtain ⟨b, o, spot⟩ := a
        have hsp : spot = none := by
          have := World.cell?_spot h1
          simpa [Addr.add] using this
        subst hsp
        refine .inr ⟨b, o, m, by rw [hkl], World.block_lt_of_cell? W _ (by rw [Addr.add_lit] at h1; exact h1), fun i c hi => ?_⟩
        have := hk i c hi
        rw [Addr.add_lit] at this
        exact this
    · have := hw ((len + (m - len)) * Try.prog.bytesOf 4) (by simp [DataW.weights, Try.underlying39])
      rw [bytes4] at this
      have h47 : reachBytes < 2 ^ 47 := reachBytes_lt
      rw [hkl]
      omega

instance : Inhabited CallD := ⟨⟨0, ⟨#[]⟩, 0, false, none, 0, 0, []⟩⟩

set_option maxRecDepth 100000 in
theorem call_open {b o : Nat} {cs' : List Value} {n : Nat} {x : DataW H × List MemPlace} (h1 : W.cells? 0 ⟨b, o, none⟩ 5 = some cs') (h2 : DataW.trod enc Try.prog W 0 (fun _ => true) true n 41 cs' = some x) (hw : ∀ k ∈ DataW.weights Try.prog 41 x.1, k ≤ reachBytes) :
    ∃ c : CallD, W.cell? ⟨b, o, none⟩ = some (.int .i64 c.kind) ∧ W.cell? ⟨b, o + 1, none⟩ = some (.string c.text) ∧ W.cell? ⟨b, o + 2, none⟩ = some (.int .i64 c.at') ∧
      W.cell? ⟨b, o + 3, none⟩ = some (.bool c.raw) ∧ W.cell? ⟨b, o + 4, none⟩ = some c.kv ∧ KeepAt W c.kv c.keep ∧ c.Ok := by
  obtain ⟨_, hlen, hcell⟩ := World.cells?_some h1
  obtain ⟨xs, m, _, rfl, _, hxl, hf⟩ := DataW.trod_struct Try.underlying41 h2
  match cs', hlen with
  | [c0, c1, c2, c3, c4], _ =>
    have e0 := hcell 0 (by omega)
    have e1 := hcell 1 (by omega)
    have e2 := hcell 2 (by omega)
    have e3 := hcell 3 (by omega)
    have e4 := hcell 4 (by omega)
    rw [Addr.add_lit] at e0 e1 e2 e3 e4
    match xs, hxl with
    | [y0, y1, y2, y3, y4], _ =>
      have t0 : DataW.trod enc Try.prog W 0 (fun _ => true) true m 3 (([c0, c1, c2, c3, c4].drop 0).take (Try.prog.cellsOf 3)) = some y0 := hf 0 _ rfl
      rw [cells3] at t0
      have t1 : DataW.trod enc Try.prog W 0 (fun _ => true) true m 9 (([c0, c1, c2, c3, c4].drop 1).take (Try.prog.cellsOf 9)) = some y1 := hf 1 _ rfl
      rw [cells9] at t1
      have t2 : DataW.trod enc Try.prog W 0 (fun _ => true) true m 3 (([c0, c1, c2, c3, c4].drop 2).take (Try.prog.cellsOf 3)) = some y2 := hf 2 _ rfl
      rw [cells3] at t2
      have t3 : DataW.trod enc Try.prog W 0 (fun _ => true) true m 4 (([c0, c1, c2, c3, c4].drop 3).take (Try.prog.cellsOf 4)) = some y3 := hf 3 _ rfl
      rw [cells4] at t3
      have t4 : DataW.trod enc Try.prog W 0 (fun _ => true) true m 39 (([c0, c1, c2, c3, c4].drop 4).take (Try.prog.cellsOf 39)) = some y4 := hf 4 _ rfl
      rw [cells39] at t4
      simp only [List.drop_zero, List.take_succ_cons, List.take_zero, List.drop_succ_cons] at t0 t1 t2 t3 t4
      obtain ⟨kind, hk, rfl, wk⟩ := DataW.trod_int Try.underlying3 t0
      obtain ⟨text, ht, rfl, _⟩ := DataW.trod_string Try.underlying9 t1
      obtain ⟨at', ha, rfl, wa⟩ := DataW.trod_int Try.underlying3 t2
      obtain ⟨raw, hr, rfl⟩ := DataW.trod_bool Try.underlying4 t3
      simp at hk ht ha hr
      subst hk; subst ht; subst ha; subst hr
      have hws : ∀ k, (k ∈ DataW.weights Try.prog 39 y4.1 ∨ k = text.data.toList.length) → k ≤ reachBytes := fun k hk => hw k (by
        simp only [DataW.weights, Try.underlying41, DataW.weightsEach, List.map, List.append_nil, List.nil_append, List.mem_append, List.mem_cons]
        rcases hk with hk | hk
        · exact .inr hk
        · exact .inl (.inl hk))
      obtain ⟨ka, kn, kc, keep, rfl, hkp, hkl⟩ := keep_open t4 (fun k hk => hws k (.inl hk))
      have htx := hws _ (.inr rfl)
      have h47 : reachBytes < 2 ^ 47 := reachBytes_lt
      have hts : text.data.toList.length = text.size := by rw [Array.length_toList]; rfl
      have b1 := bounds_i64 wk
      have b2 := bounds_i64 wa
      exact ⟨⟨kind, text, at', raw, ka, kn, kc, keep⟩, e0, e1, e2, e3, e4, hkp, b1.1, b1.2, by show text.size ≤ _; omega, b2.1, b2.2, hkl⟩

theorem weightsAll_mem {P : Program} {e : TypeId} {d : DataW H} : ∀ {l : List (DataW H)}, d ∈ l → ∀ n ∈ d.weights P e, n ∈ DataW.weightsAll P e l
  | x :: r, hd, n, hn => by
    simp only [DataW.weightsAll, List.mem_append]
    rcases List.mem_cons.1 hd with rfl | h
    · exact .inl hn
    · exact .inr (weightsAll_mem h n hn)

set_option maxRecDepth 100000 in
theorem calls_open {v : Value} {fuel : Nat} {x : DataW H × List MemPlace} (h : DataW.trod enc Try.prog W 0 (fun _ => true) true fuel 24 [v] = some x) (hw : ∀ n ∈ DataW.weights Try.prog 24 x.1, n ≤ reachBytes) :
    ∃ cs : List CallD, CallsAt W v cs ∧ cs.length ≤ 35184372088832 := by
  rcases open_slice Try.underlying24 h with ⟨hv, _⟩ | ⟨a, len, cap, m, n, D, Pl, hv, _, hl, hm, hmm, rfl, hx⟩
  · simp at hv
    subst hv
    exact ⟨[], .inl ⟨none, 0, rfl, rfl⟩, by simp⟩
  · simp at hv
    subst hv
    simp at hmm
    subst hmm
    rw [cells41] at hx
    have hww : ∀ k ∈ DataW.weights Try.prog 24 (DataW.slice ((List.range len).map D) ((List.range (m - len)).map fun j => D (len + j))), k ≤ reachBytes := hw
    have hwl : len * 64 ≤ reachBytes := by
      have := hww ((len + (m - len)) * Try.prog.bytesOf 41) (by simp [DataW.weights, Try.underlying24])
      rw [bytes41] at this
      omega
    have h47 : reachBytes < 2 ^ 47 := reachBytes_lt
    by_cases h0 : len = 0
    · subst h0
      exact ⟨[], .inl ⟨some a, m, rfl, rfl⟩, by simp⟩
    · obtain ⟨b, o, spot⟩ := a
      have hsp : spot = none := by
        obtain ⟨cs', h1, _⟩ := hx 0 (by omega)
        obtain ⟨_, hlen, hcell⟩ := World.cells?_some h1
        have h2 := hcell 0 (by omega)
        rw [List.getElem?_eq_getElem (by omega)] at h2
        have := World.cell?_spot h2
        simpa [Addr.add] using this
      subst hsp
      obtain ⟨cs, hcl, hcs⟩ := choose_list (α := CallD) (n := len) (p := fun i c => W.cell? ⟨b, o + i * 5, none⟩ = some (.int .i64 c.kind) ∧ W.cell? ⟨b, o + i * 5 + 1, none⟩ = some (.string c.text) ∧ W.cell? ⟨b, o + i * 5 + 2, none⟩ = some (.int .i64 c.at') ∧
          W.cell? ⟨b, o + i * 5 + 3, none⟩ = some (.bool c.raw) ∧ W.cell? ⟨b, o + i * 5 + 4, none⟩ = some c.kv ∧ KeepAt W c.kv c.keep ∧ c.Ok) (fun i hi => by
        obtain ⟨cs', h1, h2⟩ := hx i (by omega)
        rw [Addr.add_lit] at h1
        exact call_open h1 h2 (fun k hk => hww k (by
          simp only [DataW.weights, Try.underlying24, List.mem_cons, List.mem_append]
          exact .inr (.inl (weightsAll_mem (List.mem_map.2 ⟨i, List.mem_range.2 hi, rfl⟩) k hk)))))
      refine ⟨cs, .inr ⟨b, o, m, by rw [hcl], ?_, hcs⟩, by omega⟩
      obtain ⟨c, hc⟩ : ∃ c, cs[0]? = some c := ⟨cs[0], List.getElem?_eq_getElem (by omega)⟩
      exact World.block_lt_of_cell? W _ (hcs 0 c hc).1
end
end Go.Proofs.Ytdhklomnaodcnaa

namespace Go.Proofs.Ytdhklomnaodcnaa
open Go.ChangeShapes Go.WideShapes Go.ChangeAt Go.RowKit Go.Joins

theorem Try.own : ownKnob Try.prog.godebug = none := by kernel_rfl
theorem Try.laidOut : laidOutB Try.prog = true := by kernel_rfl
theorem Try.cells23 : Try.prog.cellsOf 23 = 3 := by kernel_rfl

set_option maxRecDepth 100000 in
theorem wal_lifted (os : Os) (started : os.Started) (H : Type) (enc : TypeId × Value → H) :
    ReturnsInHanded {} Try.checked os 3 .any (Rows.walRunsSpec.pre6 enc Try.prog Try.f3 Rows.walRunsRow.domain false) (Rows.walRunsSpec.post enc Try.prog Try.f3 false true false false) := by
  refine returnsInHanded_of_change_sized (C := Try.checked) Try.own started (by kernel_rfl) Try.func3
    (ChangeSpec.witness6 (enc := enc) (C := Try.checked) false ⟨#[], #[.agg #[.int .i64 0, .int .i64 0, .int .i64 0], .slice none 0 0], []⟩ 8 (by kernel_rfl) (by kernel_rfl) (by kernel_rfl) (by kernel_rfl)) ?_
  intro W base args ds gs before hval0 hW hcnd hsz0 _
  have hval : ∀ (j : Nat) t v, Try.f3.params[j]? = some t → args[j]? = some v → Value.okWide Try.prog W .any base t v := hval0
  have hsz : (DataW.weightsEach Try.prog (Try.f3.params.toList ++ Rows.walRunsSpec.plain.varTypes Try.prog) (ds ++ gs)).all (· ≤ reachBytes) = true := hsz0
  have hW' := hW
  obtain ⟨p, q, hA0, hV, rfl, hfz, hnd⟩ := hW
  have hA : DataW.TrodAll enc Try.prog W 0 (fun _ => true) true Try.f3.params.toList args.toList ds p := hA0
  rw [Try.params3] at hA hval hsz
  obtain ⟨v0, v1, d0, d1, p0, p1, rfl, rfl, rfl, h0, h1⟩ := trodAll_two hA
  obtain ⟨rfl, rfl⟩ := trodVars_none hV
  have k0 := h0
  have k1 := h1
  have lt0 : ∀ x ∈ p0, x.block < W.heap.size := by obtain ⟨m, hm⟩ := k0; exact DataW.trod_lt m _ _ _ hm
  have lt1 : ∀ x ∈ p1, x.block < W.heap.size := by obtain ⟨m, hm⟩ := k1; exact DataW.trod_lt m _ _ _ hm
  obtain ⟨c0, c1, c2, y0, y1, y2, m, rfl, hd0, hp0, hy0, hy1, hy2⟩ := open_agg3 Try.underlying23 (by kernel_rfl) Try.cells23 (hval 0 23 v0 rfl rfl) h0
  obtain ⟨size, e0, _, w0⟩ := DataW.trod_int Try.underlying3 hy0
  obtain ⟨first, e1, _, w1⟩ := DataW.trod_int Try.underlying3 hy1
  obtain ⟨n, e2, _, w2⟩ := DataW.trod_int Try.underlying3 hy2
  simp at e0 e1 e2
  subst e0; subst e1; subst e2
  obtain ⟨a0, len0, cap0, rfl⟩ := okWide_slice Try.underlying24 (hval 1 24 v1 rfl rfl)
  obtain ⟨cs, hcs, hcl⟩ : ∃ cs : List CallD, CallsAt W (.slice a0 len0 cap0) cs ∧ cs.length ≤ 35184372088832 := by
    obtain ⟨fuel, hf⟩ := h1
    refine calls_open (x := (d1, p1)) (by simpa [Value.cells] using hf) (fun k hk => ?_)
    have := List.all_eq_true.1 hsz k (DataW.weights_mem_each (j := 1) (t := 24) rfl rfl k hk)
    simpa using this
  clear hA0 hval0
  have b0 := bounds_i64 w0
  have b1 := bounds_i64 w1
  have b2 := bounds_i64 w2
  refine (runs_calls size first n _ cs W hcs hcl b0.1 b0.2 b1.1 b1.2 b2.1 b2.2).mono fun e W' ⟨he, hx⟩ => ?_
  subst he
  have bel := hx.toBelow
  exact ⟨_, rfl, _, _, _, [], _, [], hW', trodAll_mk1 (shut_bool Try.underlying4 _), (trodAll_cons_mk (Below.trod Try.laidOut (by kernel_rfl) (of_decide_eq_true (by kernel_rfl)) k0 bel lt0) (trodAll_cons_mk (Below.trod Try.laidOut (by kernel_rfl) (of_decide_eq_true (by kernel_rfl)) k1 bel lt1) trodAll_mk0)), rfl, bel.frame _, fun h => by cases h⟩

/-- WalRuns: true for every input; each argument reads as it did. -/
theorem wal_runs_holds : Rows.WalRunsSaid :=
  OpenClaim.holds_of_wide 3 Try.f3 rfl rfl rfl rfl rfl rfl rfl ⟨rfl, rfl, rfl, rfl, rfl⟩ rfl rfl rfl rfl rfl (by kernel_rfl) Try.func3 (by kernel_rfl)
    (of_decide_eq_true (by kernel_rfl)) (by unfold Func.isWrapper; first | (rw [if_pos (by decide +kernel)]; kernel_rfl) | (rw [if_neg (by decide +kernel)]; exact ⟨rfl, rfl⟩))
    (fun os started H enc _ => wal_lifted os started H enc)
#print axioms wal_runs_holds
end Go.Proofs.Ytdhklomnaodcnaa
