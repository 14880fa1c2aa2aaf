/- string(bytes) as a law for the walk; the bytes of a number. No condition. -/
import Derived.Test.YtdhklomnaodcnaaMem
namespace Go.Proofs.Ytdhklomnaodcnaa
open Go.RowKit

def bytesV (l : List UInt8) : List Value := l.map fun b => .int .u8 b.toNat

section
variable {P : Program} {w : World}
theorem run_conv (src dst e : TypeId) (hs : P.underlying src = some (.slice e)) (he : P.underlying e = some (.int .u8)) (hd : P.underlying dst = some .string) (base : Option Addr) (len cap : Nat) (l : List UInt8) (hl : l.length = len)
    (hn : base = none → len = 0) (hc : ∀ ad, base = some ad → ∀ i v, l[i]? = some v → w.cell? (ad.add i) = some (.int .u8 v.toNat)) :
    (convert src dst (.slice base len cap)).run P w = .ok (.string ⟨l.toArray⟩) w := by
  subst hl
  cases base with
  | none =>
    have : l = [] := List.eq_nil_of_length_eq_zero (hn rfl)
    subst this
    exact run_convert_bytes_nil (P := P) w src e hs he 0 cap dst hd
  | some ad =>
    exact run_convert_bytes_back w src dst e ad cap l hs he hd (fun j hj => hc ad rfl j l[j] (by simp [hj]))

theorem wpList_conv {ops : Array Oper} {rest : List Oper} {o : Oper} {a : Act} {Q : Exit → Act → World → Prop} (hgd : o.guard = none) (x : Operand) (src dst e : TypeId) (ho : o.op = .convert src dst x)
    (hs : P.underlying src = some (.slice e)) (he : P.underlying e = some (.int .u8)) (hd : P.underlying dst = some .string) (base : Option Addr) (len cap : Nat) (hx : a.eval x = .slice base len cap) (l : List UInt8) (hl : l.length = len)
    (hn : base = none → len = 0) (hc : ∀ ad, base = some ad → ∀ i v, l[i]? = some v → w.cell? (ad.add i) = some (.int .u8 v.toNat))
    (h : wpList P ops Q rest (a.put o.dst (.string ⟨l.toArray⟩)) w) : wpList P ops Q (o :: rest) a w := by
  have hrun := run_conv (P := P) (w := w) src dst e hs he hd base len cap l hl hn hc
  refine wpList_plain hgd fun K hK => ?_
  unfold Oper.wp
  simp [execOp, ho, hx, hrun, Result.andThen]
  exact hK _ _ h
end

/-- The lowest w bytes of a number, the lowest first. -/
def le : Nat → Nat → List UInt8
  | 0, _ => []
  | w + 1, n => UInt8.ofNat n :: le w (n / 256)
theorem le_length (w : Nat) : ∀ n, (le w n).length = w := by
  induction w with
  | zero => intro n; rfl
  | succ w ih => intro n; simp [le, ih]
theorem byte_toNat (n : Nat) : ((UInt8.ofNat n).toNat : Int) = (n : Int) % 256 := by simp
theorem le2 (n : Nat) : bytesV (le 2 n) = [.int .u8 ((n : Int) % 256), .int .u8 ((n : Int) / 256 % 256)] := by
  simp [bytesV, le]
theorem le8 (n : Nat) : bytesV (le 8 n) = [.int .u8 ((n : Int) % 256), .int .u8 ((n : Int) / 256 % 256), .int .u8 ((n : Int) / 65536 % 256), .int .u8 ((n : Int) / 16777216 % 256), .int .u8 ((n : Int) / 4294967296 % 256), .int .u8 ((n : Int) / 1099511627776 % 256), .int .u8 ((n : Int) / 281474976710656 % 256), .int .u8 ((n : Int) / 72057594037927936 % 256)] := by
  simp [bytesV, le]
  omega
end Go.Proofs.Ytdhklomnaodcnaa
