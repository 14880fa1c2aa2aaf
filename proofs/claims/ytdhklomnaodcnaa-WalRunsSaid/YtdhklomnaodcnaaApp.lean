/- append to an owned slice, from whatever source. No condition. -/
import Derived.Test.YtdhklomnaodcnaaMem
namespace Go.Proofs.Ytdhklomnaodcnaa
open Go.RowKit

/-- What is appended: m elements, the cells news, read in every world with the same blocks. -/
structure Src (P : Program) (w : World) (size : Nat) (x : Value) (m : Nat) (news : List Value) : Prop where
  len : ∀ w', (Builtin.lenOf x).run P w' = .ok m w'
  cells : ∀ w' : World, w'.heap = w.heap → (Builtin.firstCells size m x).run P w' = .ok news.toArray w'

section
variable {P : Program} {w : World}
theorem Src.slice {size : Nat} {a : Addr} {m c : Nat} {news : List Value} (hl : news.length = m * size) (h : ∀ j v, news[j]? = some v → w.cell? (a.add j) = some v) : Src P w size (.slice (some a) m c) m news :=
  ⟨fun w' => by simp [Builtin.lenOf], fun w' hw => run_firstCells_some (P := P) w' size m a m c news hl (fun j v hj => by rw [← h j v hj]; simp [World.cell?, hw])⟩
theorem Src.nil {size c : Nat} : Src P w size (.slice none 0 c) 0 [] :=
  ⟨fun w' => by simp [Builtin.lenOf], fun w' _ => by simp [Builtin.firstCells]⟩
theorem Src.empty {size c : Nat} (b : Option Addr) : Src P w size (.slice b 0 c) 0 [] := by
  cases b with
  | none => exact Src.nil
  | some a => exact Src.slice (by simp) (by simp)
theorem Src.string (s : ByteArray) : Src P w 1 (.string s) s.size (s.data.toList.map fun b => .int .u8 b.toNat) :=
  ⟨fun w' => by simp [Builtin.lenOf], fun w' _ => by
    simp [Builtin.firstCells]
    apply Array.ext'; simp⟩

theorem Src.one (w : World) (x : Value) (t : TypeId) : Src P (w.alloc (.cells #[x] t)) 1 (.slice (some ⟨w.heap.size, 0, none⟩) 1 1) 1 [x] :=
  Src.slice rfl (by
    intro j v hj
    rw [Addr.add_lit, Nat.zero_add, World.cell?_alloc_new]
    simpa using hj)
theorem Src.two (w : World) (x y : Value) (t : TypeId) : Src P (w.alloc (.cells #[x, y] t)) 2 (.slice (some ⟨w.heap.size, 0, none⟩) 1 1) 1 [x, y] :=
  Src.slice rfl (by
    intro j v hj
    rw [Addr.add_lit, Nat.zero_add, World.cell?_alloc_new]
    simpa using hj)

theorem Own.src {v : Value} {t : TypeId} {size n : Nat} {xs : List Value} (h : Own w v t size n xs) : Src P w size v n xs := by
  rcases h.2 with ⟨base, rfl, rfl⟩ | ⟨g, cap, cur, rfl, hb, hc, r⟩
  · have : xs = [] := List.eq_nil_of_length_eq_zero (by simpa using h.1)
    subst this
    exact Src.empty base
  · exact Src.slice h.1 (fun j v hj => by rw [Addr.add_lit, Nat.zero_add]; exact h.cell rfl hj)

theorem run_append_Own (t u ty e : TypeId) (i : TypeInfo) (z : Value) (size bytes : Nat) (ht : P.underlying t = some (.slice e)) (hu : P.underlying u = some (.slice e) ∨ P.underlying u = some .string)
    (hi : P.info? e = some i) (hz : i.zero = some z) (hsize : i.size = size) (hby : i.bytes = bytes) (hzs : z.cells.size = size)
    (v : Value) (n : Nat) (xs : List Value) (hown : Own w v e size n xs) (x : Value) (m : Nat) (news : List Value) (hsrc : Src P w size x m news) (hl : news.length = m * size) (h1 : ∀ u ∈ news, u.oneCell' = true)
    (h63 : n + m ≤ maxLen) (hbytes : (n + m) * bytes ≤ 140737488355328) :
    ∃ v' w', (Builtin.append_ #[t, u] ty #[v, x]).run P w = .ok v' w' ∧ Own w' v' e size (n + m) (xs ++ news) ∧ Ext (fun k => fp v = some k) w w' ∧ (∀ k, fp v' = some k → fp v = some k ∨ w.heap.size ≤ k) := by
  subst hsize
  subst hby
  have hsmall : n + m ≤ 9223372036854775807 := by simp only [maxLen] at h63; omega
  have hlen : (xs ++ news).length = (n + m) * i.size := by rw [List.length_append, hown.1, hl, Nat.add_mul]
  -- what comes of growing
  have grown : ∀ (old : Nat), old < n + m → ∀ (v : Value),
      Own (w.drew.alloc (.cells (xs.toArray ++ news.toArray ++ Builtin.zeroCells z.cells (grownCap w (n + m) old e - (n + m))) e)) (.slice (some ⟨w.heap.size, 0, none⟩) (n + m) (grownCap w (n + m) old e)) e i.size (n + m) (xs ++ news) ∧
      Ext (fun k => fp v = some k) w (w.drew.alloc (.cells (xs.toArray ++ news.toArray ++ Builtin.zeroCells z.cells (grownCap w (n + m) old e - (n + m))) e)) ∧
      (∀ k, fp (.slice (some ⟨w.heap.size, 0, none⟩) (n + m) (grownCap w (n + m) old e)) = some k → fp v = some k ∨ w.heap.size ≤ k) := by
    intro old ho v
    have hge := grownCap_ge w (n + m) old e
    have hcm : grownCap w (n + m) old e ≤ maxLen := grownCap_le_maxLen w (n + m) old e h63
    refine ⟨⟨hlen, .inr ⟨w.heap.size, _, (xs.toArray ++ news.toArray ++ Builtin.zeroCells z.cells (grownCap w (n + m) old e - (n + m))).toList, rfl, ?_, by omega, hge, hcm, ?_, ?_⟩⟩, (Ext.refl _ w).drew.alloc _, ?_⟩
    · show _ = some (Obj.cells _ e (0, 0))
      rw [Array.toArray_toList]
      exact heap_alloc_new w.drew _
    · simp only [Array.length_toList, Array.size_append, List.size_toArray, size_zeroCells, hzs, hown.1, hl, ← Nat.add_mul]
      congr 1
      omega
    · simp only [Array.toList_append, List.append_assoc]
      rw [← List.append_assoc, ← hlen]
      exact List.take_left
    · intro k hk
      simp only [fp] at hk
      split at hk
      · cases hk
      · simp at hk; subst hk; exact .inr (Nat.le_refl _)
  have hsl : ∀ w', (Builtin.lenOf x).run P w' = .ok m w' := hsrc.len
  have hsc := hsrc.cells
  rcases hown.2 with ⟨base, rfl, rfl⟩ | ⟨g, cap, cur, rfl, hb, hc0, hnc, hcm, hcs, htake⟩
  · have hx : xs = [] := List.eq_nil_of_length_eq_zero (by simpa using hown.1)
    subst hx
    by_cases hm : m = 0
    · subst hm
      have hn : news = [] := List.eq_nil_of_length_eq_zero (by simpa using hl)
      subst hn
      have hf := hsc w rfl
      refine ⟨.slice base 0 0, w, ?_, Own.zero w base e i.size, Ext.refl _ _, fun k hk => .inl hk⟩
      rcases hu with hu | hu <;> cases base <;> simp [Builtin.append_, run_underlying ht, run_underlying hu, sizeOf, typeInfo, hi, hsl, hf, storeCells]
    · have hg := grown 0 (by omega) (.slice base 0 0)
      have hf := hsc w.drew rfl
      have h48 : ¬ (281474976710656 < Builtin.nextslicecap m 0 * i.bytes) := by
        have := growslice_fits (need := m) (old := 0) (bytes := i.bytes) (by omega) (by simpa using hbytes)
        omega
      have h63' : ¬ (9223372036854775807 < (m : Int)) := by omega
      have hfo := (Src.empty (P := P) (w := w.drew) (size := i.size) (c := 0) base).cells w.drew rfl
      refine ⟨_, _, ?_, hg⟩
      rcases hu with hu | hu <;> simp [Builtin.append_, run_underlying ht, run_underlying hu, sizeOf, typeInfo, zeroValue, hi, hz, hsl, hf, hfo, hm, h48, h63', Question.forced, newRow, grownCap]
  · by_cases hroom : n + m ≤ cap
    · have hf := hsc w rfl
      have hfit : n * i.size + news.length ≤ cur.length := by rw [hl, hcs, ← Nat.add_mul]; exact Nat.mul_le_mul_right _ hroom
      have hst := run_storeCells_at P g (n * i.size) e news 0 cur.toArray w hb (by simpa using hfit) h1
      simp only [Nat.add_zero] at hst
      refine ⟨.slice (some ⟨g, 0, none⟩) (n + m) cap, w.setRow g (cur.take (n * i.size) ++ news ++ cur.drop (n * i.size + news.length)).toArray, ?_, ⟨hlen, .inr ⟨g, cap, cur.take (n * i.size) ++ news ++ cur.drop (n * i.size + news.length), rfl, ?_, hc0, hroom, hcm, ?_, ?_⟩⟩, ?_, fun k hk => .inl (by simpa [fp] using hk)⟩
      · rcases hu with hu | hu <;> simp [Builtin.append_, run_underlying ht, run_underlying hu, sizeOf, typeInfo, hi, hsl, hf, hroom, Addr.add_lit, hst]
      · exact setRow_heap w g cur.toArray _ e _ hb
      · simp only [List.length_append, List.length_take, List.length_drop]
        omega
      · rw [htake, ← hlen]
        exact List.take_left
      · exact ⟨rfl, rfl, rfl, by simp, fun k hk hn => setRow_other w g k _ (fun e => hn (by simp [fp, Nat.ne_of_gt hc0, e]))⟩
    · have hg := grown cap (by omega) (.slice (some ⟨g, 0, none⟩) n cap)
      have hf := hsc w.drew rfl
      have holds : ∀ j u, xs[j]? = some u → w.cell? ((⟨g, 0, none⟩ : Addr).add j) = some u := fun j u hu => by
        rw [Addr.add_lit, Nat.zero_add]; exact hown.cell rfl hu
      have hfo := run_firstCells_some (P := P) w.drew i.size n ⟨g, 0, none⟩ n cap xs hown.1 (by simpa using holds)
      have h48 : ¬ (281474976710656 < Builtin.nextslicecap (n + m) cap * i.bytes) := by
        have := growslice_fits (need := n + m) (old := cap) (bytes := i.bytes) (by omega) hbytes
        omega
      have h63' : ¬ (9223372036854775807 < ((n : Int) + (m : Int))) := by omega
      refine ⟨_, _, ?_, hg⟩
      rcases hu with hu | hu <;> simp [Builtin.append_, run_underlying ht, run_underlying hu, sizeOf, typeInfo, zeroValue, hi, hz, hsl, hf, hfo, hroom, h48, h63', Question.forced, newRow, grownCap] <;> (congr 2; apply Array.ext'; simp [List.append_assoc])

/-- The law for the walk. -/
theorem wpList_append_Own {ops : Array Oper} {rest : List Oper} {o : Oper} {a : Act} {Q : Exit → Act → World → Prop} (hgd : o.guard = none) (s x : Operand) (t u : TypeId)
    (ho : o.op = .call { callee := .builtin .append, args := #[s, x], argTypes := #[t, u] })
    (e : TypeId) (size bytes : Nat) (z : Value) (ht : P.underlying t = some (.slice e)) (hu : P.underlying u = some (.slice e) ∨ P.underlying u = some .string)
    (hinfo : (P.info? e).map (fun i => (i.zero, i.size, i.bytes)) = some (some z, size, bytes)) (hzs : z.cells.size = size)
    (v : Value) (n : Nat) (xs : List Value) (hs : a.eval s = v) (hown : Own w v e size n xs) (xv : Value) (hx : a.eval x = xv) (m : Nat) (news : List Value) (hsrc : Src P w size xv m news) (hl : news.length = m * size) (h1 : ∀ u ∈ news, u.oneCell' = true)
    (h63 : n + m ≤ maxLen) (hbytes : (n + m) * bytes ≤ 140737488355328)
    (h : ∀ v' w', Own w' v' e size (n + m) (xs ++ news) → Ext (fun k => fp v = some k) w w' → (∀ k, fp v' = some k → fp v = some k ∨ w.heap.size ≤ k) → wpList P ops Q rest (a.put o.dst v') w') : wpList P ops Q (o :: rest) a w := by
  obtain ⟨i, hi, hz, hsize, hby⟩ := info_parts hinfo
  obtain ⟨v', w', hr, h2, h3, h4⟩ := run_append_Own (P := P) (w := w) t u o.type e i z size bytes ht hu hi hz hsize hby hzs v n xs hown xv m news hsrc hl h1 h63 hbytes
  refine wpList_plain hgd fun K hK => ?_
  unfold Oper.wp execOp
  simp only [ho, resolve, invoke, builtin, Sem.run_bind, Sem.run_pure, Result.andThen_ok, List.map_toArray, List.map_cons, List.map_nil, hs, hx, hr]
  exact hK _ _ (h v' w' h2 h3 h4)

/-- The same as one step of a region that draws. -/
theorem step_append_Own {ops : Array Oper} {o : Oper} {a : Act} {K : Act → World → Prop} {Q : Exit → Act → World → Prop} {E : Prop} (hgd : o.guard = none) (s x : Operand) (t u : TypeId)
    (ho : o.op = .call { callee := .builtin .append, args := #[s, x], argTypes := #[t, u] })
    (e : TypeId) (size bytes : Nat) (z : Value) (ht : P.underlying t = some (.slice e)) (hu : P.underlying u = some (.slice e) ∨ P.underlying u = some .string)
    (hinfo : (P.info? e).map (fun i => (i.zero, i.size, i.bytes)) = some (some z, size, bytes)) (hzs : z.cells.size = size)
    (v : Value) (n : Nat) (xs : List Value) (hs : a.eval s = v) (hown : Own w v e size n xs) (xv : Value) (hx : a.eval x = xv) (m : Nat) (news : List Value) (hsrc : Src P w size xv m news) (hl : news.length = m * size) (h1 : ∀ u ∈ news, u.oneCell' = true)
    (h63 : n + m ≤ maxLen) (hbytes : (n + m) * bytes ≤ 140737488355328)
    (h : ∀ v' w', Own w' v' e size (n + m) (xs ++ news) → Ext (fun k => fp v = some k) w w' → (∀ k, fp v' = some k → fp v = some k ∨ w.heap.size ≤ k) → K (a.put o.dst v') w') :
    if Region.wanted o (yielded ops a.tmps) = true then Oper.wp P o a w K Q else E := by
  rw [if_pos (by simp [Region.wanted, hgd])]
  obtain ⟨i, hi, hz, hsize, hby⟩ := info_parts hinfo
  obtain ⟨v', w', hr, h2, h3, h4⟩ := run_append_Own (P := P) (w := w) t u o.type e i z size bytes ht hu hi hz hsize hby hzs v n xs hown xv m news hsrc hl h1 h63 hbytes
  unfold Oper.wp execOp
  simp only [ho, resolve, invoke, builtin, Sem.run_bind, Sem.run_pure, Result.andThen_ok, List.map_toArray, List.map_cons, List.map_nil, hs, hx, hr]
  exact h v' w' h2 h3 h4
end
end Go.Proofs.Ytdhklomnaodcnaa
