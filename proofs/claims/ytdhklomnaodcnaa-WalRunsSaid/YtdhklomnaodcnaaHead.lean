/- A region that draws its order: its head by one walk over a class of worlds, whatever the order; then what is left. No condition. -/
import Derived.Deep.Quiet
import Derived.StillTail
import Derived.BigQuiet
namespace Go.Proofs.Ytdhklomnaodcnaa
open Go

section
variable {P : Program} {ops : Array Oper} {md : Region.Mode} {C : World → Prop}

/-- What is listed when these are, too. -/
def listAll (hd : List Nat) (listed : Array Bool) : Array Bool := hd.foldl (fun l k => l.setIfInBounds k true) listed
/-- Those of hd that wait for i, itself among them. -/
def upOf (md : Region.Mode) (ops : Array Oper) (hd : List Nat) (i : Nat) : List Nat :=
  hd.foldl (fun acc k => if k == i || (match ops[k]? with | some o => o.after.any (fun e => Region.binds md e && acc.contains e.on) | none => false) then k :: acc else acc) []
/-- Without i, none but hd may come up. -/
def headTail (md : Region.Mode) (ops : Array Oper) (hd : List Nat) (listed1 : Array Bool) : Bool :=
  hd.all fun i => (Region.ready md ops ((upOf md ops hd i).foldl (fun l k => l.setIfInBounds k false) listed1)).all fun t => hd.contains t
/-- One behind the other they may come up, each free. -/
def headLex (md : Region.Mode) (ops : Array Oper) : List Nat → Array Bool → Bool
  | [], _ => true
  | k :: r, listed => (Region.ready md ops listed).contains k && Region.free md ops listed k && headLex md ops r (listed.setIfInBounds k true)
def headB (md : Region.Mode) (ops : Array Oper) (hd : List Nat) (listed0 : Array Bool) : Bool :=
  Region.noSelect ops && decide (listed0.size = ops.size) && hd.all (fun k => decide (k < ops.size) && !listed0.getD k true) && headLex md ops hd listed0 && headTail md ops hd (listAll hd listed0)

theorem getD_setF {listed : Array Bool} {i j : Nat} (d : Bool) (hi : i < listed.size) : (listed.setIfInBounds i false).getD j d = if i = j then false else listed.getD j d := by
  by_cases h : i = j
  · subst h; simp [hi]
  · simp [h, Array.getElem?_setIfInBounds]
theorem getD_setT {listed : Array Bool} {i j : Nat} (d : Bool) (hi : i < listed.size) : (listed.setIfInBounds i true).getD j d = if i = j then true else listed.getD j d := by
  by_cases h : i = j
  · subst h; simp [hi]
  · simp [h, Array.getElem?_setIfInBounds]

theorem listAll_size (hd : List Nat) : ∀ listed : Array Bool, (listAll hd listed).size = listed.size := by
  induction hd with
  | nil => intro l; rfl
  | cons k r ih => intro l; show (listAll r _).size = _; rw [ih]; simp
theorem listAll_getD (hd : List Nat) : ∀ (listed : Array Bool) (j : Nat) (d : Bool), (∀ k ∈ hd, k < listed.size) → (listAll hd listed).getD j d = if j ∈ hd then true else listed.getD j d := by
  induction hd with
  | nil => intro l j d _; simp [listAll]
  | cons k r ih =>
    intro l j d h
    show (listAll r _).getD j d = _
    rw [ih _ j d (fun x hx => by simp; exact h x (List.mem_cons_of_mem _ hx)), getD_setT d (h k List.mem_cons_self)]
    by_cases hj : j ∈ r
    · simp [hj]
    · by_cases hkj : k = j
      · subst hkj; simp
      · simp [hj, hkj, Ne.symm hkj]
theorem unlist_getD (up : List Nat) : ∀ (listed : Array Bool) (j : Nat) (d : Bool), (∀ k ∈ up, k < listed.size) → (up.foldl (fun l k => l.setIfInBounds k false) listed).getD j d = if j ∈ up then false else listed.getD j d := by
  induction up with
  | nil => intro l j d _; simp
  | cons k r ih =>
    intro l j d h
    rw [List.foldl_cons, ih _ j d (fun x hx => by simp; exact h x (List.mem_cons_of_mem _ hx)), getD_setF d (h k List.mem_cons_self)]
    by_cases hj : j ∈ r
    · simp [hj]
    · by_cases hkj : k = j
      · subst hkj; simp
      · simp [hj, hkj, Ne.symm hkj]

/-- Between the head's beginning and its end. -/
structure HInv (md : Region.Mode) (ops : Array Oper) (H : List Nat) (listed1 listed : Array Bool) : Prop where
  size : listed.size = ops.size
  closed : ∀ k ∈ H, listed.getD k false = true → ∀ o, ops[k]? = some o → ∀ e ∈ o.after, Region.binds md e = true → listed.getD e.on false = true
  off : ∀ t d, t ∉ H → listed.getD t d = listed1.getD t d

theorem up_unlisted {H : List Nat} {listed1 listed : Array Bool} (inv : HInv md ops H listed1 listed) {i : Nat} (hi : listed.getD i false = false) : ∀ k ∈ upOf md ops H i, k ∈ H ∧ listed.getD k false = false := by
  have key : ∀ (l : List Nat) (acc : List Nat), (∀ k ∈ l, k ∈ H) → (∀ k ∈ acc, k ∈ H ∧ listed.getD k false = false) →
      ∀ k ∈ l.foldl (fun acc k => if k == i || (match ops[k]? with | some o => o.after.any (fun e => Region.binds md e && acc.contains e.on) | none => false) then k :: acc else acc) acc, k ∈ H ∧ listed.getD k false = false := by
    intro l
    induction l with
    | nil => intro acc _ h; exact h
    | cons x r ih =>
      intro acc hl hacc
      rw [List.foldl_cons]
      refine ih _ (fun k hk => hl k (List.mem_cons_of_mem _ hk)) ?_
      by_cases hx : (x == i || (match ops[x]? with | some o => o.after.any (fun e => Region.binds md e && acc.contains e.on) | none => false)) = true
      · rw [if_pos hx]
        intro k hk
        rcases List.mem_cons.1 hk with rfl | hk
        · refine ⟨hl _ List.mem_cons_self, ?_⟩
          rw [Bool.or_eq_true] at hx
          rcases hx with hx | hx
          · rw [beq_iff_eq] at hx; rw [hx]; exact hi
          · cases hl' : listed.getD k false with
            | false => rfl
            | true =>
              exfalso
              cases ho : ops[k]? with
              | none => rw [ho] at hx; cases hx
              | some o =>
                rw [ho] at hx
                have hx : o.after.any (fun e => Region.binds md e && acc.contains e.on) = true := hx
                obtain ⟨e, he, hb⟩ := Array.any_eq_true'.1 hx
                rw [Bool.and_eq_true] at hb
                have := inv.closed k (hl _ List.mem_cons_self) hl' o ho e he hb.1
                rw [(hacc e.on (by simpa using hb.2)).2] at this
                cases this
        · exact hacc k hk
      · rw [if_neg hx]; exact hacc
  exact key H [] (fun _ h => h) (fun k hk => by cases hk)

theorem no_tail {H : List Nat} {listed1 listed : Array Bool} (hT : headTail md ops H listed1 = true) (hsz : listed1.size = ops.size) (h1 : ∀ k ∈ H, k < ops.size ∧ listed1.getD k false = true) (inv : HInv md ops H listed1 listed) {i : Nat} (hiH : i ∈ H) (hi : listed.getD i false = false)
    {t : Nat} (ht : t ∈ Region.ready md ops listed) : t ∈ H := by
  by_cases htH : t ∈ H
  · exact htH
  · have hup := up_unlisted inv hi
    have hT' := List.all_eq_true.1 hT i hiH
    obtain ⟨hun, o, ho, hall⟩ := mem_ready.1 ht
    have hmem : t ∈ Region.ready md ops ((upOf md ops H i).foldl (fun l k => l.setIfInBounds k false) listed1) := by
      refine mem_ready.2 ⟨?_, o, ho, fun e he hb => ?_⟩
      · rw [unlist_getD _ _ _ _ (fun k hk => by rw [hsz]; exact (h1 k (hup k hk).1).1)]
        split
        · rfl
        · rw [← inv.off t true htH]; exact hun
      · have hl := hall e he hb
        rw [unlist_getD _ _ _ _ (fun k hk => by rw [hsz]; exact (h1 k (hup k hk).1).1), if_neg (fun hm => by rw [(hup _ hm).2] at hl; cases hl)]
        by_cases heH : e.on ∈ H
        · exact (h1 _ heH).2
        · rw [← inv.off _ false heH]; exact hl
    have := List.all_eq_true.1 hT' t hmem
    simpa using this

theorem HInv.set {H : List Nat} {listed1 listed : Array Bool} (inv : HInv md ops H listed1 listed) {i : Nat} (hiH : i ∈ H) (hi : i ∈ Region.ready md ops listed) (hlt : i < ops.size) : HInv md ops H listed1 (listed.setIfInBounds i true) := by
  obtain ⟨_, oi, hoi, hall⟩ := mem_ready.1 hi
  refine ⟨by simp [inv.size], fun k hk hl o ho e he hb => ?_, fun t d ht => ?_⟩
  · by_cases hik : i = k
    · subst hik
      have : o = oi := Option.some.inj (ho.symm.trans hoi)
      subst this
      exact getD_set_true (hall e he hb)
    · rw [getD_set_ne false hik] at hl
      exact getD_set_true (inv.closed k hk hl o ho e he hb)
  · rw [getD_set_ne d (fun (e : i = t) => ht (by rw [← e]; exact hiH))]; exact inv.off t d ht

/-- Whatever order is picked of the head. -/
def wpAnyQH (P : Program) (md : Region.Mode) (ops : Array Oper) (C : World → Prop) (H : List Nat) (L : Array Bool → Act → Prop) : Nat → Array Bool → Act → Prop
  | 0, listed, a => L listed a
  | f + 1, listed, a =>
    Region.ready md ops listed ≠ [] ∧ ∀ i ∈ Region.ready md ops listed, i ∈ H ∧ qOp P ops C i (wpAnyQH P md ops C H L f (listed.setIfInBounds i true)) a

theorem wpAny_of_qh {H : List Nat} {g : Nat} {L : Array Bool → Act → Prop} {Q' : Exit → Act → World → Prop} (hL : ∀ listed a w, C w → L listed a → wpAny P md ops Q' g listed a w) :
    ∀ (f : Nat) (listed : Array Bool) (a : Act) (w : World), C w → wpAnyQH P md ops C H L f listed a → wpAny P md ops Q' (f + g) listed a w
  | 0, listed, a, w, hC, h => by rw [Nat.zero_add]; exact hL _ _ _ hC h
  | f + 1, listed, a, w, hC, h => by
    rw [show f + 1 + g = (f + g) + 1 by omega]
    exact ⟨fun h0 => absurd h0 h.1, fun i hi => wpOp_of_qOp hC (fun a' w' hC' h' => wpAny_of_qh hL f _ a' w' hC' h') (h.2 i hi).2⟩

theorem wpAnyQH_first {H : List Nat} {listed1 : Array Bool} {i : Nat} {oi : Oper} {v : Value} {L : Act → Prop} (hi : ops[i]? = some oi) (hsel : ∀ (j : Nat) (o : Oper) cs b, ops[j]? = some o → o.op ≠ .select cs b)
    (hT : headTail md ops H listed1 = true) (hsz : listed1.size = ops.size) (h1 : ∀ k ∈ H, k < ops.size ∧ listed1.getD k false = true) (hiH : i ∈ H) :
    ∀ (f : Nat) (listed : Array Bool) (a : Act), HInv md ops H listed1 listed →
      (∀ j oj, ops[j]? = some oj → j ≠ i → listed.getD j true = false → (∀ e ∈ oj.after, Region.binds md e = true → e.on ≠ i) → oi.apart ops oj = true) →
      i ∈ Region.ready md ops listed → YieldsIn P ops C oi v a →
      wpAnyQH P md ops C H (fun listed a => listed = listed1 ∧ L a) f (listed.setIfInBounds i true) (a.put oi.dst v) → wpAnyQH P md ops C H (fun listed a => listed = listed1 ∧ L a) (f + 1) listed a := by
  intro f
  induction f with
  | zero =>
    intro listed a inv _ hr hy hH
    have hun := getD_both (mem_ready.1 hr).1
    refine ⟨fun h => (by rw [h] at hr; cases hr), fun j hj => ?_⟩
    have hjH := no_tail hT hsz h1 inv hiH hun hj
    refine ⟨hjH, ?_⟩
    by_cases hji : j = i
    · subst hji; exact hy.qOp hi hH
    · exfalso
      have e := hH.1
      have hj1 := (h1 j hjH).2
      rw [← e, getD_set_ne false (fun h => hji h.symm), getD_both (mem_ready.1 hj).1] at hj1
      cases hj1
  | succ f ih =>
    intro listed a inv hfree hr hy hH
    have hun := getD_both (mem_ready.1 hr).1
    refine ⟨fun h => (by rw [h] at hr; cases hr), fun j hj => ?_⟩
    have hjH := no_tail hT hsz h1 inv hiH hun hj
    refine ⟨hjH, ?_⟩
    by_cases hji : j = i
    · subst hji; exact hy.qOp hi hH
    · have h2' := (hH.2 j (ready_mono hj hji)).2
      obtain ⟨hjun, oj, hoj, hall⟩ := mem_ready.1 hj
      have hnot : ∀ e ∈ oj.after, Region.binds md e = true → e.on ≠ i := fun e he hb heq => by
        have h1 := hall e he hb
        rw [heq, hun] at h1
        cases h1
      have h2 := qOp_put hoj (hfree j oj hoj hji hjun hnot) (fun cs b => hsel i oi cs b hi) (fun cs b => hsel j oj cs b hoj) hy h2'
      have hfree' : ∀ k ok, ops[k]? = some ok → k ≠ i → (listed.setIfInBounds j true).getD k true = false →
          (∀ e ∈ ok.after, Region.binds md e = true → e.on ≠ i) → oi.apart ops ok = true := fun k ok hk hki hun hno => by
        refine hfree k ok hk hki ?_ hno
        by_cases hjk : j = k
        · subst hjk; exact hjun
        · rw [getD_set_ne true hjk] at hun; exact hun
      refine qOp_mono (fun a' h3 => ih (listed.setIfInBounds j true) a' (inv.set hjH hj (h1 j hjH).1) hfree' (ready_mono hr (Ne.symm hji)) h3.1 ?_) h2
      rw [Array.setIfInBounds_comm _ _ hji]
      exact h3.2

theorem wpAnyQH_lex {H : List Nat} {listed1 : Array Bool} {L : Act → Prop} (hs : Region.noSelect ops = true) (hT : headTail md ops H listed1 = true) (hsz : listed1.size = ops.size) (h1 : ∀ k ∈ H, k < ops.size ∧ listed1.getD k false = true) :
    ∀ (hd : List Nat) (l : List Oper) (listed : Array Bool) (a : Act), (∀ k ∈ hd, k ∈ H) → hd.map (ops[·]?) = l.map some → listAll hd listed = listed1 → HInv md ops H listed1 listed →
    headLex md ops hd listed = true → wpQuiet P ops C L l a → wpAnyQH P md ops C H (fun listed a => listed = listed1 ∧ L a) hd.length listed a
  | [], [], _, _, _, _, he, _, _, h => ⟨he, h⟩
  | [], _ :: _, _, _, _, hm, _, _, _, _ => by simp at hm
  | _ :: _, [], _, _, _, hm, _, _, _, _ => by simp at hm
  | k :: hd, o :: l, listed, a, hH, hm, he, inv, hB, h => by
    simp only [List.map_cons, List.cons.injEq] at hm
    obtain ⟨h0, hm⟩ := hm
    simp only [headLex, Bool.and_eq_true] at hB
    obtain ⟨⟨hr, hf⟩, hB'⟩ := hB
    have hr' : k ∈ Region.ready md ops listed := by simpa using hr
    have hkH := hH k List.mem_cons_self
    have hst : qOp P ops C k (wpQuiet P ops C L l) a := by unfold qOp; simp only [h0]; exact h
    obtain ⟨v, hy, hK⟩ := yieldsIn_of_qOp h0 hst
    exact wpAnyQH_first h0 (Region.noSelect_spec hs) hT hsz h1 hkH hd.length listed a inv (Region.free_spec h0 hf) hr' hy
      (wpAnyQH_lex hs hT hsz h1 hd l _ _ (fun x hx => hH x (List.mem_cons_of_mem _ hx)) hm he (inv.set hkH hr' (h1 k hkH).1) hB' hK)

/-- The k-th, by looking. -/
def nth : List Oper → Nat → Option Oper
  | [], _ => none
  | x :: _, 0 => some x
  | _ :: r, n + 1 => nth r n
theorem nth_eq : ∀ (l : List Oper) (k : Nat), nth l k = l[k]?
  | [], _ => rfl
  | _ :: _, 0 => rfl
  | _ :: r, n + 1 => (nth_eq r n).trans (by simp)
/-- The operations that the indices name. -/
inductive Picks (ops : Array Oper) : List Nat → List Oper → Prop
  | nil : Picks ops [] []
  | cons {k : Nat} {hd : List Nat} {o : Oper} {l : List Oper} (h : nth ops.toList k = some o) (r : Picks ops hd l) : Picks ops (k :: hd) (o :: l)
theorem Picks.map {hd : List Nat} {l : List Oper} (h : Picks ops hd l) : hd.map (ops[·]?) = l.map some := by
  induction h with
  | nil => rfl
  | cons h _ ih => simp only [List.map_cons, ih]; rw [nth_eq] at h; rw [← h]; simp

/-- THE HEAD, by one walk in the order that hd gives, over all worlds of the class; then what is left, from any world of the class. -/
theorem wpAny_head (hd : List Nat) {l : List Oper} {listed0 : Array Bool} (g : Nat) {f : Nat} {Q : Exit → Act → World → Prop} {a : Act} {w : World} (C : World → Prop) (hp : Picks ops hd l)
    (hf : f = hd.length + g) (hB : headB md ops hd listed0 = true) (hC : C w) (h : wpQuiet P ops C (fun a' => ∀ w', C w' → wpAny P md ops Q g (listAll hd listed0) a' w') l a) : wpAny P md ops Q f listed0 a w := by
  subst hf
  have hm := hp.map
  simp only [headB, Bool.and_eq_true, decide_eq_true_eq] at hB
  obtain ⟨⟨⟨⟨hs, hsz0⟩, hall⟩, hlex⟩, hT⟩ := hB
  have hin : ∀ k ∈ hd, k < ops.size ∧ listed0.getD k true = false := fun k hk => by
    have := List.all_eq_true.1 hall k hk
    simpa using this
  have h1 : ∀ k ∈ hd, k < ops.size ∧ (listAll hd listed0).getD k false = true := fun k hk => ⟨(hin k hk).1, by
    rw [listAll_getD hd listed0 k false (fun x hx => by rw [hsz0]; exact (hin x hx).1), if_pos hk]⟩
  have inv : HInv md ops hd (listAll hd listed0) listed0 := by
    refine ⟨hsz0, fun k hk hl => ?_, fun t d ht => ?_⟩
    · rw [getD_both (hin k hk).2] at hl; cases hl
    · rw [listAll_getD hd listed0 t d (fun x hx => by rw [hsz0]; exact (hin x hx).1), if_neg ht]
  exact wpAny_of_qh (C := C) (fun listed a' w' hC' hL => by obtain ⟨rfl, hL⟩ := hL; exact hL w' hC') hd.length listed0 a w hC
    (wpAnyQH_lex (C := C) hs hT (by rw [listAll_size, hsz0]) h1 hd l listed0 a (fun _ h => h) hm rfl inv hlex h)

/-- One that hangs on nothing, first. -/
theorem wpAny_stray (i : Nat) {oi : Oper} {v : Value} {fuel : Nat} {listed : Array Bool} {Q : Exit → Act → World → Prop} {a : Act} {w : World} (hi : nth ops.toList i = some oi)
    (hs : Region.noSelect ops = true) (hf : Region.free md ops listed i = true) (hr : (Region.ready md ops listed).contains i = true)
    (hQ : ∀ c a w, Q (.panic c) (a.put oi.dst v) w → Q (.panic c) a w) (hy : Yields P ops oi v a)
    (h : wpQuiet P ops (fun _ => True) (fun a' => wpAny P md ops Q fuel (listed.setIfInBounds i true) a' w) [oi] a) : wpAny P md ops Q (fuel + 1) listed a w := by
  have hi' : ops[i]? = some oi := by rw [nth_eq] at hi; rw [← hi]; simp
  have hq : qOp P ops (fun _ => True) i (fun a' => wpAny P md ops Q fuel (listed.setIfInBounds i true) a' w) a := by unfold qOp; simp only [hi']; exact h
  obtain ⟨v', hy', hK⟩ := yieldsIn_of_qOp hi' hq
  have e : v' = v := by
    rcases hy with ⟨hw, hv⟩ | ⟨hw, rfl⟩ <;> rcases hy' with ⟨hw', hv'⟩ | ⟨hw', rfl⟩
    · have h1 := hv' w trivial
      unfold Oper.quietAt at h1
      rw [hv w] at h1
      exact h1.2.symm
    · rw [hw] at hw'; cases hw'
    · rw [hw] at hw'; cases hw'
    · rfl
  subst e
  exact wpAny_take hi' hs hf hr hQ hy hK

def seqL (md : Region.Mode) (ops : Array Oper) : List Nat → Array Bool → Bool
  | [], listed => (Region.ready md ops listed).isEmpty
  | k :: r, listed => decide (Region.ready md ops listed = [k]) && seqL md ops r (listed.setIfInBounds k true)
/-- What is left, where it can come up in one order alone. -/
theorem wpAny_tail {Q' : Exit → Act → World → Prop} (hd : List Nat) : ∀ (l : List Oper) (listed : Array Bool) (a : Act) (w : World), hd.map (ops[·]?) = l.map some →
    seqL md ops hd listed = true → wpList P ops Q' l a w → wpAny P md ops Q' hd.length listed a w := by
  induction hd with
  | nil =>
    intro l listed a w hp hB h
    cases l with
    | cons => simp at hp
    | nil => exact ⟨by simpa [seqL] using hB, h⟩
  | cons k hd ih =>
    intro l listed a w hp hB h
    cases l with
    | nil => simp at hp
    | cons o l =>
      simp only [List.map_cons, List.cons.injEq] at hp
      obtain ⟨h0, hp⟩ := hp
      simp only [seqL, Bool.and_eq_true, decide_eq_true_eq] at hB
      refine ⟨fun h1 => (by rw [hB.1] at h1; cases h1), fun i hi => ?_⟩
      rw [hB.1] at hi
      have hik : i = k := by simpa using hi
      subst hik
      have hw : wpOp P ops Q' i (wpList P ops Q' l) a w := by unfold wpOp; simp only [h0]; exact h
      exact wpOp_mono (fun a' w' h' => ih l _ a' w' hp hB.2 h') hw
theorem wpAny_seq (hd : List Nat) {l : List Oper} {f : Nat} {listed : Array Bool} {Q' : Exit → Act → World → Prop} {a : Act} {w : World} (hp : Picks ops hd l) (hf : f = hd.length)
    (hB : seqL md ops hd listed = true) (h : wpList P ops Q' l a w) : wpAny P md ops Q' f listed a w := by
  subst hf; exact wpAny_tail hd l listed a w hp.map hB h
end
end Go.Proofs.Ytdhklomnaodcnaa
