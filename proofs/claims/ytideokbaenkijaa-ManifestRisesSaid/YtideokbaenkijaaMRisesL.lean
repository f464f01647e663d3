/-
  ManifestRises, of what came in.
-/
import Derived.Test.YtideokbaenkijaaMRises
import Derived.Test.YtideokbaenkijaaMOpen
namespace Go.Proofs.Ytideokbaenkijaa
open Go.RowKit
theorem rises_law (s : StateD) (A : Option Addr) (k c : Nat) (gen : Int) (w : World) (h : StateIn w s A k c) (hg : -9223372036854775808 ≤ gen ∧ gen < 9223372036854775808) (_ : True) :
    Calls Try.prog 5 #[s.v A k c, .int .i64 gen] w fun e w' => e = .returned (.bool true) ∧ Below w.heap.size w w' := rises_calls s A k c gen w h.rd h.nil hg
end Go.Proofs.Ytideokbaenkijaa
