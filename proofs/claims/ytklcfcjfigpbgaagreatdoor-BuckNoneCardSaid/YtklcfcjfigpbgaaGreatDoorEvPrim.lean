/-
  What some functions come to, by plain functions.
-/
import Derived.Test.YtklcfcjfigpbgaaGreatDoorEvRun
namespace Go.Ev
noncomputable section

def crcBit (x : Nat) : Nat := ifB (Nat.beq (x % 2) 1) (Nat.xor (x / 2) 0xedb88320) (x / 2)

def crcByte (x b : Nat) : Nat := crcBit (crcBit (crcBit (crcBit (crcBit (crcBit (crcBit (crcBit (Nat.xor x b))))))))

def crcBytes : List UInt8 → Nat → Nat
  | [], x => x
  | b :: l, x => natC (crcByte x b.toNat) (crcBytes l 0) fun y => crcBytes l (Nat.succ y)

def crcAll : List AV → Nat → Option Nat
  | [], x => some x
  | .str s :: l, x => gd (Nat.ble (lenL s) 4294967296) (crcAll l (crcBytes s x))
  | _ :: _, _ => none

def crcA (args : List AV) (s : St) : Option (AV × St) :=
  match args with
  | [.sl b off len _] => gd (Nat.ble len 4294967296) (oB (s.row b) fun r => oB (cut r.c off len) fun l => oB (crcAll l 0xffffffff) fun x => some (.int .i64 (Nat.xor x 0xffffffff), s))
  | _ => none

/-- Functions without arguments that answer true, and leave all as it was. -/
def memN (f : Nat) (l : List Nat) : Bool := List.rec (motive := fun _ => Bool) false (fun a _ ih => ifB (Nat.beq f a) true ih) l

def prims (crc : FuncId) (l : List FuncId) : Prims := fun f args s => ifB (Nat.beq f crc) (crcA args s) (ifB (memN f l) (listC args (some (.bool true, s)) fun _ _ => none) none)

end
end Go.Ev
