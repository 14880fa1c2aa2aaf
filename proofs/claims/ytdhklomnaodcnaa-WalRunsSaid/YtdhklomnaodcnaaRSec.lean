/- jettyref07.sector: the walk. -/
import Derived.Test.YtdhklomnaodcnaaSec
import Derived.Test.YtdhklomnaodcnaaRefP
namespace Go.Proofs.Ytdhklomnaodcnaa
open Go.RowKit

theorem madeZeros (n : Nat) : madeCells (Value.cells (.int .u8 0)) (n * 1) = (bytesV (zeros n)).toArray := by
  rw [bytesV_zeros, Nat.mul_one]
  apply Array.ext
  · simp [madeCells]
  · intro i h1 h2
    simp [madeCells, Value.cells, Nat.mod_one]

/-- make([]byte, n). -/
theorem mk_zeros (n : Nat) (hn : n ≤ 1000000) (w : World) :
    (Instr.makeSlice 76 (.int .i64 (n : Int)) (.int .i64 (n : Int))).run Try.prog w = .ok (.slice (some ⟨w.heap.size, 0, none⟩) n n) (w.alloc (.cells (bytesV (zeros n)).toArray 5)) := by
  obtain ⟨i, hi, hz, hs, hb⟩ := info_parts info5
  have := run_make (P := Try.prog) w 76 5 i (.int .u8 0) Try.underlying76 hi hz .i64 .i64 n n (by omega) (Int.le_refl _) (by rw [hb]; omega) (by omega)
  rw [hs] at this
  simp only [Int.toNat_natCast] at this
  rw [madeZeros] at this
  exact this

theorem conv_later (w' w'' : World) (n : Nat) (e : Ext NoB (w'.alloc (.cells (bytesV (zeros n)).toArray 5)) w'') :
    (convert 76 9 (.slice (some ⟨w'.heap.size, 0, none⟩) n n)).run Try.prog w'' = .ok (.string ⟨(zeros n).toArray⟩) w'' := by
  refine run_conv 76 9 5 Try.underlying76 Try.underlying5 Try.underlying9 _ n n (zeros n) (by simp [zeros]) (by simp) ?_
  intro ad had i v hv
  cases had
  rw [Addr.add_lit, Nat.zero_add]
  exact ((Blk.new w' (bytesV (zeros n)) 5).ext e id).cell (by simp [bytesV, hv])

set_option maxHeartbeats 4000000 in
set_option maxRecDepth 100000 in
theorem rsector_calls (k : Nat) (hk : k + 1 ≤ 9223372036854775807) (l : List UInt8) (hl : l.length ≤ 54) (w : World) :
    Calls Try.prog 43 #[.int .i64 k, .string ⟨l.toArray⟩] w fun e w' => e = .returned (.string ⟨(sec k l).toArray⟩) ∧ Ext NoB w w' := by
  have e1 : ((k + 1 : Nat) : Int) = (k : Int) + 1 := by omega
  have H8 := Lib.hid (fun w => put8_calls (k + 1) hk w)
  rw [e1] at H8
  have H2 := Lib.hid (fun w => put2_calls l.length (by omega) w)
  obtain ⟨n, hn⟩ : ∃ n, 54 - l.length = n := ⟨_, rfl⟩
  have e2 : (n : Int) = 54 - (l.length : Int) := by omega
  have hmk := fun w' => mk_zeros n (by omega) w'
  have hcv := fun w' w'' => conv_later w' w'' n
  have hzl : (zeros n).length ≤ 54 := by simp [zeros]; omega
  rw [e2] at hmk
  obtain ⟨Z, hZ⟩ : ∃ Z, (bytesV (zeros n)).toArray = Z := ⟨_, rfl⟩
  rw [hZ] at hmk
  simp only [hZ] at hcv
  obtain ⟨zz, hzz⟩ : ∃ zz, zeros n = zz := ⟨_, rfl⟩
  simp only [hzz] at hcv
  rw [hzz] at hzl
  have Hzz : Hid (List.replicate (54 - l.length) 0 = zz) := by rw [← hzz, hn]; rfl
  have q8 : (le 8 (k + 1)).length = 8 := le_length _ _
  have q2 : (le 2 l.length).length = 2 := le_length _ _
  have qa : ¬ 9223372036854775807 < 10 + l.length := by omega
  have qb : ¬ 9223372036854775807 < 10 + l.length + zz.length := by omega
  have qw : IntKind.i64.wrap (54 - (l.length : Int)) = 54 - (l.length : Int) := IntWalk.i64_in _ (by omega)
  have qw2 : IntKind.i64.wrap ((k : Int) + 1) = (k : Int) + 1 := IntWalk.i64_in _ (by omega)
  have hrf : ∀ X, Ext NoB X X := fun X => Ext.refl _ _
  have hdr : ∀ X Y, Ext NoB X Y → Ext NoB X Y.drew := fun X Y h => h.drew
  clear e1 e2 hn hzz hZ
  go_enter Try.func43, Try.ntmps43
  go_wp2_with fail
  have E0 := (Ext.refl NoB w).drew
  go_region_with (first
    | (go_at_call 40; (with_reducible refine (H8.out _).mono ?_); rintro e w8 ⟨rfl, hE8⟩; have hT8 := fun X (h : Ext NoB X _) => h.trans hE8 (fun _ _ h => h); (first | (have hB8 : Ext NoB (w.alloc (.cells Z 5)) w8 := Ext.trans (Ext.drew (Ext.refl _ _)) hE8 (fun _ _ h => h); have hS8 : Ext NoB w w8 := Ext.trans (Ext.alloc (Ext.refl _ _) _) hB8 (fun _ _ h => h)) | have hS8 : Ext NoB w w8 := Ext.trans E0 hE8 (fun _ _ h => h)))
    | (go_at_call 40; (with_reducible refine (H2.out _).mono ?_); rintro e w2 ⟨rfl, hE2⟩; have hT2 := fun X (h : Ext NoB X _) => h.trans hE2 (fun _ _ h => h); (first | have hS2 : Ext NoB w w2 := hT2 _ hS8 | have hS2 : Ext NoB w w2 := hT2 _ (Ext.alloc hS8 _))))
  all_goals
    go_wp2_with fail
    go_ret
    refine ⟨?_, by first | exact hS2 | exact hS2.alloc _⟩
    show Ending.returned (.string _) = _
    rw [ByteArray.mk_append_mk, ByteArray.mk_append_mk, ByteArray.mk_append_mk, ← Hzz.out]
    rfl
end Go.Proofs.Ytdhklomnaodcnaa
