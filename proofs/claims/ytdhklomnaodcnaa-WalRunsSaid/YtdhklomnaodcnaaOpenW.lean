/- Words for the two Opens: slices that are owned, their heads and windows. No condition. -/
import Derived.Test.YtdhklomnaodcnaaSec
import Derived.Test.YtdhklomnaodcnaaApp
import Derived.Test.YtdhklomnaodcnaaClone
namespace Go.Proofs.Ytdhklomnaodcnaa
open Go.RowKit

theorem Src.drew {P : Program} {w : World} {size m : Nat} {v : Value} {news : List Value} (h : Src P w size v m news) : Src P w.drew size v m news := ⟨h.1, fun w' hw => h.2 w' hw⟩
theorem Own.win {w : World} {t : TypeId} {v : Value} {size n : Nat} {xs : List Value} (h : Own w v t size n xs) : Win w v size n xs := by
  have hx := h.1
  rcases h.2 with ⟨base, rfl, rfl⟩ | ⟨g, cap, cur, rfl, hb, hc, r⟩
  · exact .inl ⟨base, 0, rfl, rfl, List.eq_nil_of_length_eq_zero (by simpa using hx)⟩
  · exact .inr ⟨g, 0, cap, rfl, hx, fun i u hu => by rw [Nat.zero_add]; exact h.cell rfl hu⟩
/-- The first m elements. -/
theorem Own.pre {w : World} {t : TypeId} {size n cap g m : Nat} {xs : List Value} (h : Own w (.slice (some ⟨g, 0, none⟩) n cap) t size n xs) (hn : 0 < n) (hm : m ≤ n) :
    Own w (.slice (some ⟨g, 0, none⟩) m cap) t size m (xs.take (m * size)) := by
  obtain ⟨g', cap', cur, hv, _, hb, h1, h2, h3, h4⟩ := h.pos hn
  cases hv
  have hx : xs.length = n * size := h.1
  have hle : m * size ≤ n * size := Nat.mul_le_mul_right _ hm
  refine ⟨by rw [List.length_take, hx]; omega, .inr ⟨g, cap, cur, rfl, hb, by omega, by omega, h2, h3, ?_⟩⟩
  rw [← h4, List.take_take, Nat.min_eq_left hle]
/-- A window of the bytes. -/
theorem Own.window {w : World} {g cl : Nat} {buf : List UInt8} (h : Own w (.slice (some ⟨g, 0, none⟩) buf.length cl) 5 1 buf.length (bytesV buf)) (lo m : Nat) :
    BytesAt w (some ⟨g, lo, none⟩) ((buf.drop lo).take m) := by
  refine ⟨fun e => (by cases e), fun ad had i v hv => ?_⟩
  cases had
  rw [Addr.add_lit]
  have hv' : (bytesV buf)[lo + i]? = some (.int .u8 v.toNat) := by
    rw [List.getElem?_take] at hv
    split at hv
    · rw [List.getElem?_drop] at hv
      simp [bytesV, hv]
    · cases hv
  exact h.cell rfl hv'
end Go.Proofs.Ytdhklomnaodcnaa
