/- copy between two owned slices of one length. No condition. -/
import Derived.Test.YtdhklomnaodcnaaApp
namespace Go.Proofs.Ytdhklomnaodcnaa
open Go.RowKit
section
variable {P : Program} {w : World}

theorem run_copy_Own (t u ty e : TypeId) (i : TypeInfo) (size : Nat) (ht : P.underlying t = some (.slice e)) (hi : P.info? e = some i) (hsize : i.size = size)
    (d : Value) (n : Nat) (xs : List Value) (hd : Own w d e size n xs) (hn : 0 < n) (s : Value) (ys : List Value) (hs : Own w s e size n ys) (h1 : ∀ u ∈ ys, u.oneCell' = true) :
    ∃ w', (Builtin.copy_ #[t, u] ty #[d, s]).run P w = .ok (.int .i64 n) w' ∧ Own w' d e size n ys ∧ Ext (fun k => fp d = some k) w w' := by
  subst hsize
  obtain ⟨g, cap, cur, rfl, hf, hb, hnc, hcm, hcl, hct⟩ := hd.pos hn
  have hsrc := hs.src (P := P)
  have hsl := hsrc.len
  have hsc := hsrc.cells w rfl
  have hcap : n * i.size ≤ cap * i.size := Nat.mul_le_mul_right _ hnc
  have hyl : ys.length = n * i.size := hs.1
  have hst := run_storeCells_at P g 0 e ys 0 cur.toArray w hb (by simp; omega) h1
  refine ⟨w.setRow g (ys ++ cur.drop ys.length).toArray, ?_, ⟨hs.1, .inr ⟨g, cap, ys ++ cur.drop ys.length, rfl, ?_, by omega, hnc, hcm, ?_, ?_⟩⟩, ?_⟩
  · have hmin : Nat.min n n = n := Nat.min_self n
    simp at hst
    simp [Builtin.copy_, run_underlying ht, sizeOf, typeInfo, hi, hsl, hmin, hsc, hst, goInt]
  · exact setRow_heap w g cur.toArray _ e _ hb
  · simp only [List.length_append, List.length_drop]; omega
  · rw [← hyl]; exact List.take_left
  · exact ⟨rfl, rfl, rfl, by simp, fun k hk hne => setRow_other w g k _ (fun e => hne (by rw [hf, e]))⟩

theorem wpList_copy_Own {ops : Array Oper} {rest : List Oper} {o : Oper} {a : Act} {Q : Exit → Act → World → Prop} (hgd : o.guard = none) (d s : Operand) (t u : TypeId)
    (ho : o.op = .call { callee := .builtin .copy, args := #[d, s], argTypes := #[t, u] })
    (e : TypeId) (z : Option Value) (size bytes : Nat) (ht : P.underlying t = some (.slice e)) (hinfo : (P.info? e).map (fun i => (i.zero, i.size, i.bytes)) = some (z, size, bytes))
    (dv : Value) (n : Nat) (xs : List Value) (hdv : a.eval d = dv) (hd : Own w dv e size n xs) (hn : 0 < n) (sv : Value) (ys : List Value) (hsv : a.eval s = sv) (hs : Own w sv e size n ys) (h1 : ∀ u ∈ ys, u.oneCell' = true)
    (h : ∀ w', Own w' dv e size n ys → Ext (fun k => fp dv = some k) w w' → wpList P ops Q rest (a.put o.dst (.int .i64 n)) w') : wpList P ops Q (o :: rest) a w := by
  obtain ⟨i, hi, hzz⟩ := Option.map_eq_some_iff.1 hinfo
  simp only [Prod.mk.injEq] at hzz
  obtain ⟨w', hr, h2, h3⟩ := run_copy_Own (P := P) (w := w) t u o.type e i size ht hi hzz.2.1 dv n xs hd hn sv ys hs h1
  refine wpList_plain hgd fun K hK => ?_
  unfold Oper.wp execOp
  simp only [ho, resolve, invoke, builtin, Sem.run_bind, Sem.run_pure, Result.andThen_ok, List.map_toArray, List.map_cons, List.map_nil, hdv, hsv, hr]
  exact hK _ _ (h w' h2 h3)
end
end Go.Proofs.Ytdhklomnaodcnaa
