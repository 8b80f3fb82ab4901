import Derived.Test.YtcjhmlfdmddhkaaGoRg5
namespace Pl
open Go Sx Go.Proofs Go.RowKit
theorem tab8_get {xs : List Int} {z : Int} (h : xs.length = 8) : tab 8 xs z = xs := tab_eq h
theorem wrapI {i m : Int} (h0 : 0 ≤ i) (h1 : i < m) (h2 : m ≤ 1000000) : IntKind.i64.wrap (i + 1) = i + 1 := IntWalk.i64_in _ (by omega)
def ofR (r : RingD) (f t : Int) : List Int := ofL r.1 f t 8 0
def moveR (r : RingD) (n : Int) : List Int := mvL r n 16 0
end Pl
