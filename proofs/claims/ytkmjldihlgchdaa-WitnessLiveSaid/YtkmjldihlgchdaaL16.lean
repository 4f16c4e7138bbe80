/- Bits: & | ^ &^ and shifts. -/
import Derived.Test.YtkmjldihlgchdaaL15
set_option linter.unusedVariables false
set_option linter.unusedSimpArgs false
namespace Go.Proofs.Ytkmjldihlgchdaa.M
def isBit : BinOp → Bool
  | .and | .or | .xor | .andNot => true
  | _ => false
/-- & | ^ &^ of two integers of a kind. -/
def bitV (op : BinOp) (kk : IntKind) (a b : Int) : Int :=
  match op with
  | .and => kk.wrap (BitVec.ofInt kk.bits a &&& BitVec.ofInt kk.bits b).toNat
  | .or => kk.wrap (BitVec.ofInt kk.bits a ||| BitVec.ofInt kk.bits b).toNat
  | .xor => kk.wrap (BitVec.ofInt kk.bits a ^^^ BitVec.ofInt kk.bits b).toNat
  | _ => kk.wrap (BitVec.ofInt kk.bits a &&& ~~~ BitVec.ofInt kk.bits b).toNat
section
variable {P : Program} {k : World} {N : Nat} {e : Env} {L : List HP} {d : Option Nat} {ty : Nat} {ps : String} {af : Array Edge} {g : Option (Nat × Bool)}
theorem OV.bits {op : BinOp} {t t' : Nat} {x y : Operand} {kk : IntKind} {a b : Int} (hx : e.ev x = some (.int kk a)) (hy : e.ev y = some (.int kk b)) (ho : isBit op = true) :
    OV P k N e L ⟨d, .binOp op t x y t', ty, ps, af, g⟩ (.int kk (bitV op kk a b)) := fun c w ha hs => by
  rw [exec_bin, ha.ev hx, ha.ev hy]
  refine run_v ?_
  cases op <;> first | (exfalso; simp [isBit] at ho; done) | (simp [eqGuard, binOp, Op.intBits, bitV])
theorem OV.shlV {t t' : Nat} {x y : Operand} {kk k2 : IntKind} {a b : Int} (hx : e.ev x = some (.int kk a)) (hy : e.ev y = some (.int k2 b)) (hb : decide (b < 0) = false) :
    OV P k N e L ⟨d, .binOp .shl t x y t', ty, ps, af, g⟩ (.int kk (kk.wrap (a * 2 ^ (min b.toNat kk.bits)))) := fun c w ha hs => by
  have h0 : ¬ b < 0 := by simpa using hb
  rw [exec_bin, ha.ev hx, ha.ev hy]
  refine run_v ?_
  simp [eqGuard, binOp, Op.shift, h0]
end
theorem wrap_u64 (n : Int) : 0 ≤ IntKind.u64.wrap n ∧ IntKind.u64.wrap n < 18446744073709551616 := by
  have : IntKind.u64.wrap n = n % 18446744073709551616 := rfl
  rw [this]
  omega
theorem bitV_u64 (op : BinOp) (a b : Int) : 0 ≤ bitV op .u64 a b ∧ bitV op .u64 a b < 18446744073709551616 := by
  unfold bitV
  split <;> exact wrap_u64 _
theorem and_le (a m : Int) (h : 0 ≤ m ∧ m < 18446744073709551616) : bitV .and .u64 a m ≤ m := by
  have h1 : (BitVec.ofInt 64 m).toNat = m.toNat := by
    rw [BitVec.toNat_ofInt]
    have : m % ((2 ^ 64 : Nat) : Int) = m := Int.emod_eq_of_lt h.1 h.2
    rw [this]
  have h2 : (BitVec.ofInt 64 a &&& BitVec.ofInt 64 m).toNat ≤ m.toNat := by
    rw [BitVec.toNat_and, h1]; exact Nat.and_le_right
  show IntKind.u64.wrap ((BitVec.ofInt 64 a &&& BitVec.ofInt 64 m).toNat : Int) ≤ m
  have h3 : ∀ n : Int, IntKind.u64.wrap n = n % 18446744073709551616 := fun _ => rfl
  rw [h3]
  omega
end Go.Proofs.Ytkmjldihlgchdaa.M
