import Derived.Test.YtcjhmlfdmddhkaaGoRg6
namespace Pl
open Go Sx Go.Proofs Go.RowKit
theorem reads_okR {R : Nat → Prop} {w : World} {x : RingD} {cs : List Value} (h : ReadsC R w Ring x cs) : okR x := by
  obtain ⟨c1, c2, _, ⟨h1, _⟩, c3, c4, _, _, h2, _⟩ := h
  exact ⟨h1, h2⟩
abbrev rings : Ty := .slice Ring
def heavyR (r : RingD) : Bool := decide ((r.2.1.2.2.length : Int) > 100)
theorem bodyH : Try.f19.body = some (bodyOf Try.f19) := by kernel_rfl
abbrev KrB : Nat × Sx.Spec := (21, pureSp [Ring, Ring] [.bool] S2r (fun x => (belowR x.1 x.2.1, ())))
abbrev KrR : Nat × Sx.Spec := (24, pureSp [Ring, i64, i64] [Ring, i64] S1rn (fun x => ((riseR x.1 x.2.1 x.2.2.1).1, (riseR x.1 x.2.1 x.2.2.1).2, ())))
abbrev KrRL : Nat × Sx.Spec := (24, pureSpL [Ring, i64, i64] [Ring, i64] S1rn (fun x => ((riseR x.1 x.2.1 x.2.2.1).1, (riseR x.1 x.2.1 x.2.2.1).2, ())))
noncomputable abbrev KHv : Nat × Sx.Spec := (19, fnI E0 [] 100 Try.f19)
end Pl
