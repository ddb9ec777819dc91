/- The ideal machine: integers; frames of slots. -/
import Derived.Test.YtoejiaciaafbmaaImStep
namespace Go.IM
open Go

def iAnd (k : IntKind) (x y : Int) : Int := k.wrap ((BitVec.ofInt k.bits x &&& BitVec.ofInt k.bits y).toNat : Int)
def iOr (k : IntKind) (x y : Int) : Int := k.wrap ((BitVec.ofInt k.bits x ||| BitVec.ofInt k.bits y).toNat : Int)
def iXor (k : IntKind) (x y : Int) : Int := k.wrap ((BitVec.ofInt k.bits x ^^^ BitVec.ofInt k.bits y).toNat : Int)
def iNot (k : IntKind) (x : Int) : Int := iXor k (if k.signed then -1 else k.max) x
def iShl (k : IntKind) (x n : Int) : Int := k.wrap (x * 2 ^ (min n.toNat k.bits))
def iShr (k : IntKind) (x n : Int) : Int := x.fdiv (2 ^ (min n.toNat k.bits))

/-! ### Frames: slots by a function -/
abbrev Sl := Nat → Value
def upd (x : Sl) (i : Nat) (v : Value) : Sl := fun j => bif Nat.beq j i then v else x j
def hasN : List Nat → Nat → Bool
  | [], _ => false
  | a :: l, j => bif Nat.beq j a then true else hasN l j
def ov (x w : Sl) (l : List Nat) : Sl := fun j => bif hasN l j then w j else x j
def lst (x : Sl) : Nat → Nat → List Value
  | 0, _ => []
  | n + 1, i => x i :: lst x n (i + 1)
def arr (n : Nat) (x : Sl) : Array Value := ⟨lst x n 0⟩
def st (n : Nat) (x : Sl) : Act := ⟨arr n x, []⟩

theorem i64_nat (n : Nat) (h : n < 2 ^ 63) : IntKind.wrap .i64 (n : Int) = (n : Int) := wrap_i64 (by omega) (by omega)
theorem i64_succ (n : Nat) (h : n + 1 < 2 ^ 63) : IntKind.wrap .i64 ((n : Int) + 1) = ((n + 1 : Nat) : Int) := by
  rw [wrap_i64 (by omega) (by omega)]; omega

end Go.IM
