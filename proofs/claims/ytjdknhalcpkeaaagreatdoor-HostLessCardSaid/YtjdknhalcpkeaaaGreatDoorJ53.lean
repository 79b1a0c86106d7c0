/- The law HostLess, whole. -/
import Derived.Test.YtjdknhalcpkeaaaGreatDoorJ51
import Derived.Test.YtjdknhalcpkeaaaGreatDoorJ52
namespace Go.Proofs.YtjdknhalcpkeaaaGreatDoor
open Go Go.RowKit Go.Sort Rte Sch Tre Hst
theorem hostLess_any (A : Option Addr) (cap : Nat) (L : List Line) (i : Int) (pol : Bool) (w : World) (hE : Env w) (hR : Rd w 3 A L.length (lines L)) (hcap : L.length ≤ cap) (hc : cap ≤ maxLen) (hi : 0 ≤ i ∧ i ≤ 255) :
 Calls Tryz.prog 8 #[.slice A L.length cap, .int .u8 i, .bool pol] w fun e w' => e = .returned (.bool true) ∧ Below w.heap.size w w' := by
 cases pol
 · exact hostLessR_any A cap L i hi w hE hR hcap hc
 · exact hostLessP_any A cap L i hi w hE hR hcap hc
end Go.Proofs.YtjdknhalcpkeaaaGreatDoor
