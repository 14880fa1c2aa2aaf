/- wal.sector: the walk. -/
import Derived.Test.YtdhklomnaodcnaaShelf
import Derived.Test.YtdhklomnaodcnaaOct
import Derived.Deep.RegionHeld3
namespace Go.Proofs.Ytdhklomnaodcnaa
open Go.RowKit

/-- The bytes of sector number k of the stream, holding l. -/
def sec (k : Nat) (l : List UInt8) : List UInt8 := le 8 (k + 1) ++ le 2 l.length ++ l ++ List.replicate (54 - l.length) 0

/-- The bytes l lie from base on, as a slice has them. -/
structure BytesAt (w : World) (base : Option Addr) (l : List UInt8) : Prop where
  none : base = .none → l = []
  cell : ∀ ad, base = some ad → ∀ i v, l[i]? = some v → w.cell? (ad.add i) = some (.int .u8 v.toNat)

theorem BytesAt.ext {w w' : World} {S : Nat → Prop} {base : Option Addr} {l : List UInt8} (h : BytesAt w base l) (e : Ext S w w') (hn : ∀ ad, base = some ad → ¬ S ad.block) : BytesAt w' base l := by
  refine ⟨h.none, fun ad had i v hv => ?_⟩
  have hc := h.cell ad had i v hv
  have hb : (ad.add i).block = ad.block := by unfold Addr.add; split <;> rfl
  rw [← hc]
  refine World.cell?_of_block (e.block _ (World.block_lt_of_cell? w _ hc) ?_)
  rw [hb]; exact hn ad had

theorem BytesAt.conv {P : Program} {w : World} {base : Option Addr} {l : List UInt8} (h : BytesAt w base l) (src dst e : TypeId) (hs : P.underlying src = some (.slice e)) (he : P.underlying e = some (.int .u8)) (hd : P.underlying dst = some .string) (cap : Nat) :
    (convert src dst (.slice base l.length cap)).run P w = .ok (.string ⟨l.toArray⟩) w :=
  run_conv src dst e hs he hd base l.length cap l rfl (fun hb => by rw [h.none hb]; rfl) h.cell

theorem repeatL_zero : ∀ n, Lib.repeatL [(0 : UInt8)] n = List.replicate n 0 := by
  intro n
  induction n with
  | zero => rfl
  | succ n ih => simp [Lib.repeatL, ih, List.replicate_succ]

set_option maxHeartbeats 1000000 in
theorem sector_calls (k : Nat) (hk : k + 1 ≤ 9223372036854775807) (base : Option Addr) (cap : Nat) (l : List UInt8) (hl : l.length ≤ 54) (w : World) (h : BytesAt w base l) :
    Calls Try.prog 41 #[.int .i64 k, .slice base l.length cap] w fun e w' => e = .returned (.string ⟨(sec k l).toArray⟩) ∧ Below w.heap.size w w' := by
  have e1 : ((k + 1 : Nat) : Int) = (k : Int) + 1 := by omega
  have H8 := Lib.hid (fun w => num8_calls (k + 1) w)
  rw [e1] at H8
  have H2 := Lib.hid (fun w => num2_calls l.length (by omega) w)
  have e2 : ((54 - l.length : Nat) : Int) = 54 - (l.length : Int) := by omega
  have HR := Lib.hid (fun w => Try.strings_Repeat ⟨#[0]⟩ (54 - l.length) w (by omega) (by show 1 * _ ≤ _; omega))
  rw [e2] at HR
  have hcv : ∀ w', Ext NoB w w' → (convert 76 9 (.slice base l.length cap)).run Try.prog w' = .ok (.string ⟨l.toArray⟩) w' := fun w' e =>
    (h.ext e (fun _ _ => id)).conv 76 9 5 Try.underlying76 Try.underlying5 Try.underlying9 cap
  have q8 : (le 8 (k + 1)).length = 8 := le_length _ _
  have q2 : (le 2 l.length).length = 2 := le_length _ _
  have q0 : (Lib.repeatL [(0 : UInt8)] (54 - l.length)).length ≤ 54 := by rw [repeatL_zero]; simp
  have qw : IntKind.i64.wrap (54 - (l.length : Int)) = 54 - (l.length : Int) := IntWalk.i64_in _ (by omega)
  have qa : ¬ 9223372036854775807 < 10 + l.length := by omega
  have qb : ¬ 9223372036854775807 < 10 + l.length + (Lib.repeatL [(0 : UInt8)] (54 - l.length)).length := by omega
  clear e1 e2 h
  go_enter Try.func41, Try.ntmps41
  go_wp2_with (first | (go_at_call 39; (with_reducible refine (H8.out _).mono ?_); rintro e w1 ⟨rfl, hb1⟩) | (go_at_call 39; (with_reducible refine (H2.out _).mono ?_); rintro e w2 ⟨rfl, hb2⟩))
  have E2 : Ext NoB w w2 := ((Ext.refl NoB w).bel hb1).bel hb2
  have E2' := E2.drew
  clear hb1 hb2 E2
  go_region_held3 (fun w' => Ext NoB w w') (first | assumption | (refine Ext.bel ?_ hb3; assumption)) (first | (go_at_call 34; (with_reducible refine (HR.out _).mono ?_); rintro e w3 ⟨rfl, hb3⟩))
  all_goals
    go_wp2
    go_ret
    refine ⟨?_, Ext.toBelow (by assumption)⟩
    show Ending.returned (.string _) = _
    rw [ByteArray.mk_append_mk, ByteArray.mk_append_mk, ByteArray.mk_append_mk, repeatL_zero]
    rfl
end Go.Proofs.Ytdhklomnaodcnaa
