/-
  PLAIN LEAN: what package least asks of a config.
-/
import Derived.Test.YtofffkhipmoojaaName
namespace Go.Proofs.Ytofffkhipmoojaa

def withinB (n lo hi : Int) : Bool := decide (lo ≤ n) && decide (n ≤ hi)
/-- May it be a hint? -/
def hintB (h : List UInt8 × Int) : Bool := validB h.1 && withinB h.2 0 4294967295
/-- The four numbers that are times. -/
def timesB (t g m d : Int) : Bool := withinB t 1 2147483648 && withinB g 1 2147483648 && withinB m 1 1000 && withinB d 1 100000
/-- May it be a config? -/
def checkB (hs : List (List UInt8 × Int)) (a t g m d s j k : Int) : Bool :=
  hs.all hintB && timesB t g m d && withinB (hs.length : Int) 1 16 && withinB a 2048 1048576 && withinB s 1 24 && withinB j 1 64 && withinB k 1 64
def errOf (b : Bool) : Int := if b then 0 else 1
end Go.Proofs.Ytofffkhipmoojaa
