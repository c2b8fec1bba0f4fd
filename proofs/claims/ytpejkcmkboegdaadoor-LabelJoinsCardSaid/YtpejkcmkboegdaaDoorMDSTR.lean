/- The contracts of layer 4, as the printed texts name them. -/
import Derived.Test.YtpejkcmkboegdaaDoorMSTR
namespace Go.Moat
open Go.Mini

/-- strconv.Itoa -/
def F_strconv_Itoa (N : Nat) (i : Int) : M (List UInt8) := itoaS i

/-- strconv.Atoi -/
def F_strconv_Atoi (N : Nat) (s : List UInt8) : M (Int × MV) := atoiS 68 s

/-- strings.Join -/
def F_strings_Join (N : Nat) (s : Sl) (sep : List UInt8) : M (List UInt8) := joinS s sep

/-- strings.Split -/
def F_strings_Split (N : Nat) (s sep : List UInt8) : M (Sl) := splitS s sep

end Go.Moat
