/-
  val.taken.
-/
import Derived.Test.YtonghiaocpenaaaDoorKTaken1
import Derived.Test.YtonghiaocpenaaaDoorKTaken4
import Derived.Test.YtonghiaocpenaaaDoorKTaken5
import Derived.Test.YtonghiaocpenaaaDoorKTakenE
namespace Go.Proofs.YtonghiaocpenaaaDoor
open Go.RowKit

theorem taken_calls (b off n cap : Nat) (k : Int) (xs : List Int) (w : World) (hx : RdB w (some ⟨b, off, none⟩) n xs) (hbl : b < w.heap.size) (hb : Bytes xs) (hn : n ≤ 1000000) (hcap : n ≤ cap) (hcm : cap ≤ maxLen) (hT : Lib.Utf8Tabs 0 1 w) :
    Calls Tryd.prog 63 #[.int .i64 k, .slice (some ⟨b, off, none⟩) n cap] w (TakenOut k xs w) := by
  by_cases k5 : k = 5
  · subst k5; exact taken5_calls b off n cap xs w hx hbl hb hT
  by_cases k4 : k = 4
  · subst k4; exact taken4_calls b off n cap xs w hx hbl hb hn hcap hT
  by_cases k1 : k = 1
  · subst k1; exact taken1_calls b off n cap xs w hx hbl hb hn hcap hT
  exact takenE_calls b off n cap k xs w hx hbl hb hn hcap hcm hT k1 k5 k4
end Go.Proofs.YtonghiaocpenaaaDoor
