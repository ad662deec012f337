/- The context of the Asm seat, and what the interpreter finds there. -/
import Derived.Test.YtnlnbhcjgacgmaaGreatDoorDca22
import Derived.Test.YtnlnbhcjgacgmaaGreatDoorDsU
import GoSem.PinnedTables
set_option linter.unusedVariables false
set_option linter.unusedSimpArgs false
set_option maxRecDepth 100000
namespace Go.Ds.Seat
open Go.Proofs
noncomputable section
def ext (f : Nat) : Option (List Value → Option Value) :=
  match f with
  | 72 => some xNoEscape
  | 169 => some xIndexByteString
  | 179 => some xCountString
  | _ => none
def ctx : Ctx := { ty := tyT, fn := fnT, ext := ext, mth := [], lies := [(53, 0, 53), (69, 7, 53)] }
def drF (f : Nat) : Draws := match drT.get f with | some d => d | none => []
def nobase : Calling := fun _ _ _ => none
def u8s (l : List Nat) : List Value := l.map fun n => .int .u8 (Int.ofNat n)
def u64s (l : List Nat) : List Value := l.map fun n => .int .u64 (Int.ofNat n)
def gFirst : List Value := u8s Go.Pinned.utf8FirstZ
def gRanges : List Value := u8s [128, 191, 160, 191, 128, 159, 144, 191, 128, 143, 0, 0, 0, 0, 0, 0, 0, 0, 0, 0, 0, 0, 0, 0, 0, 0, 0, 0, 0, 0, 0, 0]
def gPow : List Value := u64s [1, 10, 100, 1000, 10000, 100000, 1000000, 10000000, 100000000, 1000000000, 10000000000, 100000000000, 1000000000000, 10000000000000, 100000000000000, 1000000000000000, 10000000000000000, 100000000000000000, 1000000000000000000, 10000000000000000000]
def gBru32 : List Value := u8s [0, 1, 28, 2, 29, 14, 24, 3, 30, 22, 20, 15, 25, 17, 4, 8, 31, 27, 13, 23, 21, 19, 16, 7, 26, 12, 18, 6, 11, 5, 10, 9]
def gBru64 : List Value := u8s [0, 1, 56, 2, 57, 49, 28, 3, 61, 58, 42, 50, 38, 29, 17, 4, 62, 47, 59, 36, 45, 43, 51, 22, 53, 39, 33, 30, 24, 18, 12, 5, 63, 55, 48, 27, 60, 41, 37, 16, 46, 35, 44, 21, 52, 32, 23, 11, 54, 26, 40, 15, 34, 20, 31, 10, 25, 14, 19, 9, 13, 8, 7, 6]
/-- The package-level variables that are laid. -/
def gH : DH := { t := ((((Tr.nil.set 3 (some (.row gFirst 176 0 0))).set 5 (some (.row gRanges 179 0 0))).set 7 (some (.row gPow 219 0 0))).set 13 (some (.row gBru32 241 0 0))).set 15 (some (.row gBru64 242 0 0)), n := 0 }
def cM : Nat → Calling := callM ctx drF [15] 1000 nobase
def okRet : Option (DOut × DH) → Bool
  | some (.ret (.bool true), _) => true
  | _ => false
def okCode : Option (DOut × DH) → Nat
  | some (.ret (.bool true), _) => 1
  | some (.ret (.bool false), _) => 2
  | some (.ret _, _) => 3
  | some (.panic _, _) => 4
  | none => 5
end
end Go.Ds.Seat
