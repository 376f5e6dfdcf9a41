/- Four of the print's words, so that the texts stand on fewer modules. No conditions. -/
import Derived.Test.YtajdlgbhofdafaaWWords
import Derived.Test.YtajdlgbhofdafaaWLast
import Derived.Test.YtajdlgbhofdafaaWTab
import Derived.Test.YtajdlgbhofdafaaWArr
import Derived.Test.YtajdlgbhofdafaaWZeros
import Derived.Test.YtajdlgbhofdafaaWEqStruct
import Derived.Test.YtajdlgbhofdafaaWGuard
namespace Go.Proofs.YtajdlgbhofdafaaW.PrintWords
open Go.RowKit
section
variable {P : Program} {ops : Array Oper} {rest : List Oper} {o : Oper} {a : Act} {Q : Exit → Act → World → Prop} {W : World}
theorem gate_callee {f : FuncId} {as : Array Operand} {ts : Array TypeId} (_ho : o.op = .call { callee := .value (.func f), args := as, argTypes := ts }) (h : wpList P ops Q (o :: rest) a W) : wpList P ops Q (o :: rest) a W := h
theorem gate_builtin {b : Builtin} {xs : Array Operand} {ts : Array TypeId} (_ho : o.op = .call { callee := .builtin b, args := xs, argTypes := ts }) (h : wpList P ops Q (o :: rest) a W) : wpList P ops Q (o :: rest) a W := h
end
def shr (k : IntKind) (x y : Int) : Int := x / 2 ^ min y.toNat k.bits
theorem shr_small {k : IntKind} {x y j : Int} (h : shr k x y = j) (hy : y ≤ k.bits) : x / 2 ^ y.toNat = j := by rw [← h]; unfold shr; rw [Nat.min_eq_left (by omega)]
end Go.Proofs.YtajdlgbhofdafaaW.PrintWords
namespace Go.Proofs.YtajdlgbhofdafaaW.PrintMore
theorem stands : True := trivial
end Go.Proofs.YtajdlgbhofdafaaW.PrintMore
