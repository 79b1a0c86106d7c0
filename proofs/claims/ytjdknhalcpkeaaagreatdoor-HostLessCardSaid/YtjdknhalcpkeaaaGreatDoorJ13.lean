/- Plain facts: what a configuration may say: types, statements, faults. No program in sight. -/
import Derived.Test.YtjdknhalcpkeaaaGreatDoorJ08
import Derived.Test.YtjdknhalcpkeaaaGreatDoorJ12
import Derived.Test.YtjdknhalcpkeaaaGreatDoorJ09
import Derived.Test.YtjdknhalcpkeaaaGreatDoorJ01
namespace Sch
open Go Go.Lib Adr Mtr Tre
def wHosts : ByteArray := ⟨#[104, 111, 115, 116, 115]⟩
def wIp : ByteArray := ⟨#[105, 112]⟩
def wMac : ByteArray := ⟨#[109, 97, 99]⟩
def wVnis : ByteArray := ⟨#[118, 110, 105, 115]⟩
def wSubnet : ByteArray := ⟨#[115, 117, 98, 110, 101, 116]⟩
def wBind : ByteArray := ⟨#[98, 105, 110, 100, 105, 110, 103, 115]⟩
def wHost : ByteArray := ⟨#[104, 111, 115, 116]⟩
def wVni : ByteArray := ⟨#[118, 110, 105]⟩
def wRoutes : ByteArray := ⟨#[114, 111, 117, 116, 101, 115]⟩
def wVia : ByteArray := ⟨#[118, 105, 97]⟩
def wMetric : ByteArray := ⟨#[109, 101, 116, 114, 105, 99]⟩
def wPolicy : ByteArray := ⟨#[112, 111, 108, 105, 99, 121]⟩
def wAction : ByteArray := ⟨#[97, 99, 116, 105, 111, 110]⟩
def wFrom : ByteArray := ⟨#[102, 114, 111, 109]⟩
def wTo : ByteArray := ⟨#[116, 111]⟩
def tName : ByteArray := ⟨#[36, 110, 97, 109, 101]⟩
def tIp : ByteArray := ⟨#[36, 105, 112]⟩
def tPrefix : ByteArray := ⟨#[36, 112, 114, 101, 102, 105, 120]⟩
def tMac : ByteArray := ⟨#[36, 109, 97, 99]⟩
def tVni : ByteArray := ⟨#[36, 118, 110, 105]⟩
def tNum : ByteArray := ⟨#[36, 110, 117, 109]⟩
def tMetric : ByteArray := ⟨#[36, 109, 101, 116, 114, 105, 99]⟩
def tAction : ByteArray := ⟨#[36, 97, 99, 116, 105, 111, 110]⟩
def wPermit : ByteArray := ⟨#[112, 101, 114, 109, 105, 116]⟩
def wDeny : ByteArray := ⟨#[100, 101, 110, 121]⟩
def isLow (c : UInt8) : Bool := decide (97 ≤ c.toNat) && decide (c.toNat ≤ 122)
def isNm (c : UInt8) : Bool := isLow c || isDig c || c == 45
def nameB (l : List UInt8) : Bool := decide (1 ≤ l.length) && decide (l.length ≤ 16) && isLow (l.getD 0 0) && l.all isNm
def typeB (k w : ByteArray) : Bool :=
 if k = tName then nameB w.data.toList else if k = tIp then decide (0 ≤ ip w.data.toList) else if k = tPrefix then decide (0 ≤ (pre w.data.toList).1)
 else if k = tMac then decide (0 ≤ mac w.data.toList) else if k = tVni then numIn w.data.toList 1 16777215 else if k = tNum then numIn w.data.toList 1 1000
 else if k = tMetric then readOk w.data.toList else if k = tAction then (decide (w = wPermit) || decide (w = wDeny)) else false
structure Rule where
 path : List ByteArray
 one : Bool
 needed : Bool
def rulesB : List Rule := [
 ⟨[wHosts], false, false⟩,
 ⟨[wHosts, tName], false, false⟩,
 ⟨[wHosts, tName, wIp], true, true⟩,
 ⟨[wHosts, tName, wIp, tIp], false, false⟩,
 ⟨[wHosts, tName, wMac], true, false⟩,
 ⟨[wHosts, tName, wMac, tMac], false, false⟩,
 ⟨[wHosts, tName, wVnis], false, false⟩,
 ⟨[wHosts, tName, wVnis, tVni], false, false⟩,
 ⟨[wVnis], false, false⟩,
 ⟨[wVnis, tVni], false, false⟩,
 ⟨[wVnis, tVni, wSubnet], true, true⟩,
 ⟨[wVnis, tVni, wSubnet, tPrefix], false, false⟩,
 ⟨[wBind], false, false⟩,
 ⟨[wBind, tIp], false, false⟩,
 ⟨[wBind, tIp, wHost], true, true⟩,
 ⟨[wBind, tIp, wHost, tName], false, false⟩,
 ⟨[wBind, tIp, wMac], true, true⟩,
 ⟨[wBind, tIp, wMac, tMac], false, false⟩,
 ⟨[wBind, tIp, wVni], true, true⟩,
 ⟨[wBind, tIp, wVni, tVni], false, false⟩,
 ⟨[wRoutes], false, false⟩,
 ⟨[wRoutes, tPrefix], false, false⟩,
 ⟨[wRoutes, tPrefix, wVia], true, true⟩,
 ⟨[wRoutes, tPrefix, wVia, tName], false, false⟩,
 ⟨[wRoutes, tPrefix, wMetric], true, false⟩,
 ⟨[wRoutes, tPrefix, wMetric, tMetric], false, false⟩,
 ⟨[wPolicy], false, false⟩,
 ⟨[wPolicy, tNum], false, false⟩,
 ⟨[wPolicy, tNum, wAction], true, true⟩,
 ⟨[wPolicy, tNum, wAction, tAction], false, false⟩,
 ⟨[wPolicy, tNum, wFrom], true, false⟩,
 ⟨[wPolicy, tNum, wFrom, tPrefix], false, false⟩,
 ⟨[wPolicy, tNum, wTo], true, false⟩,
 ⟨[wPolicy, tNum, wTo, tPrefix], false, false⟩]
def isType (p : ByteArray) : Bool := hasPrefix p.data.toList [36]
def fitsB (p w : ByteArray) : Bool := if isType p then typeB p w else decide (p = w)
def matchB : List ByteArray → List ByteArray → Bool
 | [], [] => true
 | p :: ps, w :: ws => fitsB p w && matchB ps ws
 | [], _ :: _ => false
 | _ :: _, [] => false
def ruleOf (p : List ByteArray) : Option Rule := rulesB.find? fun r => matchB r.path p
def needB (p : List ByteArray) (r : Rule) : Bool := r.needed && matchB (r.path.take (r.path.length - 1)) p
def lastW (r : Rule) : ByteArray := r.path.getD (r.path.length - 1) ⟨#[]⟩
def needsOf (p : List ByteArray) : List ByteArray := (rulesB.filter (needB p)).map lastW
def formB (p : List ByteArray) (r : Rule) : Bool := decide (r.path.length = p.length) && matchB (r.path.take (p.length - 1)) (p.take (p.length - 1)) && isType (r.path.getD (p.length - 1) ⟨#[]⟩)
def unknownOf (p : List ByteArray) : Int := if rulesB.any (formB p) then 2 else 3
def secondB (a : ByteArray) : ByteArray :=
 if a = wHosts then tName else if a = wVnis then tVni else if a = wBind then tIp else if a = wRoutes then tPrefix else if a = wPolicy then tNum else ⟨#[]⟩
def thirdB (a c : ByteArray) : ByteArray × Bool × Bool :=
 if a = wHosts ∧ c = wIp then (tIp, true, true)
 else if a = wHosts ∧ c = wMac then (tMac, true, false)
 else if a = wHosts ∧ c = wVnis then (tVni, false, false)
 else if a = wVnis ∧ c = wSubnet then (tPrefix, true, true)
 else if a = wBind ∧ c = wHost ∨ a = wRoutes ∧ c = wVia then (tName, true, true)
 else if a = wBind ∧ c = wMac then (tMac, true, true)
 else if a = wBind ∧ c = wVni then (tVni, true, true)
 else if a = wRoutes ∧ c = wMetric then (tMetric, true, false)
 else if a = wPolicy ∧ c = wAction then (tAction, true, true)
 else if a = wPolicy ∧ c = wFrom ∨ a = wPolicy ∧ c = wTo then (tPrefix, true, false)
 else (⟨#[]⟩, false, false)
def needs2 (a : ByteArray) : List ByteArray :=
 if a = wHosts then [wIp] else if a = wVnis then [wSubnet] else if a = wBind then [wHost, wMac, wVni] else if a = wRoutes then [wVia] else if a = wPolicy then [wAction] else []
def knownB : List ByteArray → Int
 | [] => 0
 | [a] => if secondB a = ⟨#[]⟩ then 3 else 0
 | [a, b] => if typeB (secondB a) b then 0 else 2
 | [a, _, c] => if (thirdB a c).1 = ⟨#[]⟩ then 3 else 0
 | [a, _, c, d] => if typeB (thirdB a c).1 d then 0 else 2
 | _ => 3
theorem fits_w {p : ByteArray} (h : isType p = false) (w : ByteArray) : fitsB p w = decide (w = p) := by unfold fitsB; rw [h]; simp [eq_comm]
theorem fits_t {p : ByteArray} (h : isType p = true) (w : ByteArray) : fitsB p w = typeB p w := by unfold fitsB; rw [h]; rfl
theorem fits_wHosts (w : ByteArray) : fitsB wHosts w = decide (w = wHosts) := fits_w (by decide +kernel) w
theorem ty_wHosts : isType wHosts = false := by decide +kernel
theorem fits_wIp (w : ByteArray) : fitsB wIp w = decide (w = wIp) := fits_w (by decide +kernel) w
theorem ty_wIp : isType wIp = false := by decide +kernel
theorem fits_wMac (w : ByteArray) : fitsB wMac w = decide (w = wMac) := fits_w (by decide +kernel) w
theorem ty_wMac : isType wMac = false := by decide +kernel
theorem fits_wVnis (w : ByteArray) : fitsB wVnis w = decide (w = wVnis) := fits_w (by decide +kernel) w
theorem ty_wVnis : isType wVnis = false := by decide +kernel
theorem fits_wSubnet (w : ByteArray) : fitsB wSubnet w = decide (w = wSubnet) := fits_w (by decide +kernel) w
theorem ty_wSubnet : isType wSubnet = false := by decide +kernel
theorem fits_wBind (w : ByteArray) : fitsB wBind w = decide (w = wBind) := fits_w (by decide +kernel) w
theorem ty_wBind : isType wBind = false := by decide +kernel
theorem fits_wHost (w : ByteArray) : fitsB wHost w = decide (w = wHost) := fits_w (by decide +kernel) w
theorem ty_wHost : isType wHost = false := by decide +kernel
theorem fits_wVni (w : ByteArray) : fitsB wVni w = decide (w = wVni) := fits_w (by decide +kernel) w
theorem ty_wVni : isType wVni = false := by decide +kernel
theorem fits_wRoutes (w : ByteArray) : fitsB wRoutes w = decide (w = wRoutes) := fits_w (by decide +kernel) w
theorem ty_wRoutes : isType wRoutes = false := by decide +kernel
theorem fits_wVia (w : ByteArray) : fitsB wVia w = decide (w = wVia) := fits_w (by decide +kernel) w
theorem ty_wVia : isType wVia = false := by decide +kernel
theorem fits_wMetric (w : ByteArray) : fitsB wMetric w = decide (w = wMetric) := fits_w (by decide +kernel) w
theorem ty_wMetric : isType wMetric = false := by decide +kernel
theorem fits_wPolicy (w : ByteArray) : fitsB wPolicy w = decide (w = wPolicy) := fits_w (by decide +kernel) w
theorem ty_wPolicy : isType wPolicy = false := by decide +kernel
theorem fits_wAction (w : ByteArray) : fitsB wAction w = decide (w = wAction) := fits_w (by decide +kernel) w
theorem ty_wAction : isType wAction = false := by decide +kernel
theorem fits_wFrom (w : ByteArray) : fitsB wFrom w = decide (w = wFrom) := fits_w (by decide +kernel) w
theorem ty_wFrom : isType wFrom = false := by decide +kernel
theorem fits_wTo (w : ByteArray) : fitsB wTo w = decide (w = wTo) := fits_w (by decide +kernel) w
theorem ty_wTo : isType wTo = false := by decide +kernel
theorem fits_wPermit (w : ByteArray) : fitsB wPermit w = decide (w = wPermit) := fits_w (by decide +kernel) w
theorem fits_wDeny (w : ByteArray) : fitsB wDeny w = decide (w = wDeny) := fits_w (by decide +kernel) w
theorem fits_tName (w : ByteArray) : fitsB tName w = typeB tName w := fits_t (by decide +kernel) w
theorem ty_tName : isType tName = true := by decide +kernel
theorem fits_tIp (w : ByteArray) : fitsB tIp w = typeB tIp w := fits_t (by decide +kernel) w
theorem ty_tIp : isType tIp = true := by decide +kernel
theorem fits_tPrefix (w : ByteArray) : fitsB tPrefix w = typeB tPrefix w := fits_t (by decide +kernel) w
theorem ty_tPrefix : isType tPrefix = true := by decide +kernel
theorem fits_tMac (w : ByteArray) : fitsB tMac w = typeB tMac w := fits_t (by decide +kernel) w
theorem ty_tMac : isType tMac = true := by decide +kernel
theorem fits_tVni (w : ByteArray) : fitsB tVni w = typeB tVni w := fits_t (by decide +kernel) w
theorem ty_tVni : isType tVni = true := by decide +kernel
theorem fits_tNum (w : ByteArray) : fitsB tNum w = typeB tNum w := fits_t (by decide +kernel) w
theorem ty_tNum : isType tNum = true := by decide +kernel
theorem fits_tMetric (w : ByteArray) : fitsB tMetric w = typeB tMetric w := fits_t (by decide +kernel) w
theorem ty_tMetric : isType tMetric = true := by decide +kernel
theorem fits_tAction (w : ByteArray) : fitsB tAction w = typeB tAction w := fits_t (by decide +kernel) w
theorem ty_tAction : isType tAction = true := by decide +kernel
theorem ne_wHosts_wVnis : (wHosts = wVnis) = False := by simp only [eq_iff_iff, iff_false]; decide +kernel
theorem ne_wHosts_wBind : (wHosts = wBind) = False := by simp only [eq_iff_iff, iff_false]; decide +kernel
theorem ne_wHosts_wRoutes : (wHosts = wRoutes) = False := by simp only [eq_iff_iff, iff_false]; decide +kernel
theorem ne_wHosts_wPolicy : (wHosts = wPolicy) = False := by simp only [eq_iff_iff, iff_false]; decide +kernel
theorem ne_wHosts_wIp : (wHosts = wIp) = False := by simp only [eq_iff_iff, iff_false]; decide +kernel
theorem ne_wHosts_wMac : (wHosts = wMac) = False := by simp only [eq_iff_iff, iff_false]; decide +kernel
theorem ne_wHosts_wSubnet : (wHosts = wSubnet) = False := by simp only [eq_iff_iff, iff_false]; decide +kernel
theorem ne_wHosts_wHost : (wHosts = wHost) = False := by simp only [eq_iff_iff, iff_false]; decide +kernel
theorem ne_wHosts_wVni : (wHosts = wVni) = False := by simp only [eq_iff_iff, iff_false]; decide +kernel
theorem ne_wHosts_wVia : (wHosts = wVia) = False := by simp only [eq_iff_iff, iff_false]; decide +kernel
theorem ne_wHosts_wMetric : (wHosts = wMetric) = False := by simp only [eq_iff_iff, iff_false]; decide +kernel
theorem ne_wHosts_wAction : (wHosts = wAction) = False := by simp only [eq_iff_iff, iff_false]; decide +kernel
theorem ne_wHosts_wFrom : (wHosts = wFrom) = False := by simp only [eq_iff_iff, iff_false]; decide +kernel
theorem ne_wHosts_wTo : (wHosts = wTo) = False := by simp only [eq_iff_iff, iff_false]; decide +kernel
theorem ne_wVnis_wHosts : (wVnis = wHosts) = False := by simp only [eq_iff_iff, iff_false]; decide +kernel
theorem ne_wVnis_wBind : (wVnis = wBind) = False := by simp only [eq_iff_iff, iff_false]; decide +kernel
theorem ne_wVnis_wRoutes : (wVnis = wRoutes) = False := by simp only [eq_iff_iff, iff_false]; decide +kernel
theorem ne_wVnis_wPolicy : (wVnis = wPolicy) = False := by simp only [eq_iff_iff, iff_false]; decide +kernel
theorem ne_wVnis_wIp : (wVnis = wIp) = False := by simp only [eq_iff_iff, iff_false]; decide +kernel
theorem ne_wVnis_wMac : (wVnis = wMac) = False := by simp only [eq_iff_iff, iff_false]; decide +kernel
theorem ne_wVnis_wSubnet : (wVnis = wSubnet) = False := by simp only [eq_iff_iff, iff_false]; decide +kernel
theorem ne_wVnis_wHost : (wVnis = wHost) = False := by simp only [eq_iff_iff, iff_false]; decide +kernel
theorem ne_wVnis_wVni : (wVnis = wVni) = False := by simp only [eq_iff_iff, iff_false]; decide +kernel
theorem ne_wVnis_wVia : (wVnis = wVia) = False := by simp only [eq_iff_iff, iff_false]; decide +kernel
theorem ne_wVnis_wMetric : (wVnis = wMetric) = False := by simp only [eq_iff_iff, iff_false]; decide +kernel
theorem ne_wVnis_wAction : (wVnis = wAction) = False := by simp only [eq_iff_iff, iff_false]; decide +kernel
theorem ne_wVnis_wFrom : (wVnis = wFrom) = False := by simp only [eq_iff_iff, iff_false]; decide +kernel
theorem ne_wVnis_wTo : (wVnis = wTo) = False := by simp only [eq_iff_iff, iff_false]; decide +kernel
theorem ne_wBind_wHosts : (wBind = wHosts) = False := by simp only [eq_iff_iff, iff_false]; decide +kernel
theorem ne_wBind_wVnis : (wBind = wVnis) = False := by simp only [eq_iff_iff, iff_false]; decide +kernel
theorem ne_wBind_wRoutes : (wBind = wRoutes) = False := by simp only [eq_iff_iff, iff_false]; decide +kernel
theorem ne_wBind_wPolicy : (wBind = wPolicy) = False := by simp only [eq_iff_iff, iff_false]; decide +kernel
theorem ne_wBind_wIp : (wBind = wIp) = False := by simp only [eq_iff_iff, iff_false]; decide +kernel
theorem ne_wBind_wMac : (wBind = wMac) = False := by simp only [eq_iff_iff, iff_false]; decide +kernel
theorem ne_wBind_wSubnet : (wBind = wSubnet) = False := by simp only [eq_iff_iff, iff_false]; decide +kernel
theorem ne_wBind_wHost : (wBind = wHost) = False := by simp only [eq_iff_iff, iff_false]; decide +kernel
theorem ne_wBind_wVni : (wBind = wVni) = False := by simp only [eq_iff_iff, iff_false]; decide +kernel
theorem ne_wBind_wVia : (wBind = wVia) = False := by simp only [eq_iff_iff, iff_false]; decide +kernel
theorem ne_wBind_wMetric : (wBind = wMetric) = False := by simp only [eq_iff_iff, iff_false]; decide +kernel
theorem ne_wBind_wAction : (wBind = wAction) = False := by simp only [eq_iff_iff, iff_false]; decide +kernel
theorem ne_wBind_wFrom : (wBind = wFrom) = False := by simp only [eq_iff_iff, iff_false]; decide +kernel
theorem ne_wBind_wTo : (wBind = wTo) = False := by simp only [eq_iff_iff, iff_false]; decide +kernel
theorem ne_wRoutes_wHosts : (wRoutes = wHosts) = False := by simp only [eq_iff_iff, iff_false]; decide +kernel
theorem ne_wRoutes_wVnis : (wRoutes = wVnis) = False := by simp only [eq_iff_iff, iff_false]; decide +kernel
theorem ne_wRoutes_wBind : (wRoutes = wBind) = False := by simp only [eq_iff_iff, iff_false]; decide +kernel
theorem ne_wRoutes_wPolicy : (wRoutes = wPolicy) = False := by simp only [eq_iff_iff, iff_false]; decide +kernel
theorem ne_wRoutes_wIp : (wRoutes = wIp) = False := by simp only [eq_iff_iff, iff_false]; decide +kernel
theorem ne_wRoutes_wMac : (wRoutes = wMac) = False := by simp only [eq_iff_iff, iff_false]; decide +kernel
theorem ne_wRoutes_wSubnet : (wRoutes = wSubnet) = False := by simp only [eq_iff_iff, iff_false]; decide +kernel
theorem ne_wRoutes_wHost : (wRoutes = wHost) = False := by simp only [eq_iff_iff, iff_false]; decide +kernel
theorem ne_wRoutes_wVni : (wRoutes = wVni) = False := by simp only [eq_iff_iff, iff_false]; decide +kernel
theorem ne_wRoutes_wVia : (wRoutes = wVia) = False := by simp only [eq_iff_iff, iff_false]; decide +kernel
theorem ne_wRoutes_wMetric : (wRoutes = wMetric) = False := by simp only [eq_iff_iff, iff_false]; decide +kernel
theorem ne_wRoutes_wAction : (wRoutes = wAction) = False := by simp only [eq_iff_iff, iff_false]; decide +kernel
theorem ne_wRoutes_wFrom : (wRoutes = wFrom) = False := by simp only [eq_iff_iff, iff_false]; decide +kernel
theorem ne_wRoutes_wTo : (wRoutes = wTo) = False := by simp only [eq_iff_iff, iff_false]; decide +kernel
theorem ne_wPolicy_wHosts : (wPolicy = wHosts) = False := by simp only [eq_iff_iff, iff_false]; decide +kernel
theorem ne_wPolicy_wVnis : (wPolicy = wVnis) = False := by simp only [eq_iff_iff, iff_false]; decide +kernel
theorem ne_wPolicy_wBind : (wPolicy = wBind) = False := by simp only [eq_iff_iff, iff_false]; decide +kernel
theorem ne_wPolicy_wRoutes : (wPolicy = wRoutes) = False := by simp only [eq_iff_iff, iff_false]; decide +kernel
theorem ne_wPolicy_wIp : (wPolicy = wIp) = False := by simp only [eq_iff_iff, iff_false]; decide +kernel
theorem ne_wPolicy_wMac : (wPolicy = wMac) = False := by simp only [eq_iff_iff, iff_false]; decide +kernel
theorem ne_wPolicy_wSubnet : (wPolicy = wSubnet) = False := by simp only [eq_iff_iff, iff_false]; decide +kernel
theorem ne_wPolicy_wHost : (wPolicy = wHost) = False := by simp only [eq_iff_iff, iff_false]; decide +kernel
theorem ne_wPolicy_wVni : (wPolicy = wVni) = False := by simp only [eq_iff_iff, iff_false]; decide +kernel
theorem ne_wPolicy_wVia : (wPolicy = wVia) = False := by simp only [eq_iff_iff, iff_false]; decide +kernel
theorem ne_wPolicy_wMetric : (wPolicy = wMetric) = False := by simp only [eq_iff_iff, iff_false]; decide +kernel
theorem ne_wPolicy_wAction : (wPolicy = wAction) = False := by simp only [eq_iff_iff, iff_false]; decide +kernel
theorem ne_wPolicy_wFrom : (wPolicy = wFrom) = False := by simp only [eq_iff_iff, iff_false]; decide +kernel
theorem ne_wPolicy_wTo : (wPolicy = wTo) = False := by simp only [eq_iff_iff, iff_false]; decide +kernel
theorem ne_wIp_wHosts : (wIp = wHosts) = False := by simp only [eq_iff_iff, iff_false]; decide +kernel
theorem ne_wIp_wVnis : (wIp = wVnis) = False := by simp only [eq_iff_iff, iff_false]; decide +kernel
theorem ne_wIp_wBind : (wIp = wBind) = False := by simp only [eq_iff_iff, iff_false]; decide +kernel
theorem ne_wIp_wRoutes : (wIp = wRoutes) = False := by simp only [eq_iff_iff, iff_false]; decide +kernel
theorem ne_wIp_wPolicy : (wIp = wPolicy) = False := by simp only [eq_iff_iff, iff_false]; decide +kernel
theorem ne_wIp_wMac : (wIp = wMac) = False := by simp only [eq_iff_iff, iff_false]; decide +kernel
theorem ne_wIp_wSubnet : (wIp = wSubnet) = False := by simp only [eq_iff_iff, iff_false]; decide +kernel
theorem ne_wIp_wHost : (wIp = wHost) = False := by simp only [eq_iff_iff, iff_false]; decide +kernel
theorem ne_wIp_wVni : (wIp = wVni) = False := by simp only [eq_iff_iff, iff_false]; decide +kernel
theorem ne_wIp_wVia : (wIp = wVia) = False := by simp only [eq_iff_iff, iff_false]; decide +kernel
theorem ne_wIp_wMetric : (wIp = wMetric) = False := by simp only [eq_iff_iff, iff_false]; decide +kernel
theorem ne_wIp_wAction : (wIp = wAction) = False := by simp only [eq_iff_iff, iff_false]; decide +kernel
theorem ne_wIp_wFrom : (wIp = wFrom) = False := by simp only [eq_iff_iff, iff_false]; decide +kernel
theorem ne_wIp_wTo : (wIp = wTo) = False := by simp only [eq_iff_iff, iff_false]; decide +kernel
theorem ne_wMac_wHosts : (wMac = wHosts) = False := by simp only [eq_iff_iff, iff_false]; decide +kernel
theorem ne_wMac_wVnis : (wMac = wVnis) = False := by simp only [eq_iff_iff, iff_false]; decide +kernel
theorem ne_wMac_wBind : (wMac = wBind) = False := by simp only [eq_iff_iff, iff_false]; decide +kernel
theorem ne_wMac_wRoutes : (wMac = wRoutes) = False := by simp only [eq_iff_iff, iff_false]; decide +kernel
theorem ne_wMac_wPolicy : (wMac = wPolicy) = False := by simp only [eq_iff_iff, iff_false]; decide +kernel
theorem ne_wMac_wIp : (wMac = wIp) = False := by simp only [eq_iff_iff, iff_false]; decide +kernel
theorem ne_wMac_wSubnet : (wMac = wSubnet) = False := by simp only [eq_iff_iff, iff_false]; decide +kernel
theorem ne_wMac_wHost : (wMac = wHost) = False := by simp only [eq_iff_iff, iff_false]; decide +kernel
theorem ne_wMac_wVni : (wMac = wVni) = False := by simp only [eq_iff_iff, iff_false]; decide +kernel
theorem ne_wMac_wVia : (wMac = wVia) = False := by simp only [eq_iff_iff, iff_false]; decide +kernel
theorem ne_wMac_wMetric : (wMac = wMetric) = False := by simp only [eq_iff_iff, iff_false]; decide +kernel
theorem ne_wMac_wAction : (wMac = wAction) = False := by simp only [eq_iff_iff, iff_false]; decide +kernel
theorem ne_wMac_wFrom : (wMac = wFrom) = False := by simp only [eq_iff_iff, iff_false]; decide +kernel
theorem ne_wMac_wTo : (wMac = wTo) = False := by simp only [eq_iff_iff, iff_false]; decide +kernel
theorem ne_wSubnet_wHosts : (wSubnet = wHosts) = False := by simp only [eq_iff_iff, iff_false]; decide +kernel
theorem ne_wSubnet_wVnis : (wSubnet = wVnis) = False := by simp only [eq_iff_iff, iff_false]; decide +kernel
theorem ne_wSubnet_wBind : (wSubnet = wBind) = False := by simp only [eq_iff_iff, iff_false]; decide +kernel
theorem ne_wSubnet_wRoutes : (wSubnet = wRoutes) = False := by simp only [eq_iff_iff, iff_false]; decide +kernel
theorem ne_wSubnet_wPolicy : (wSubnet = wPolicy) = False := by simp only [eq_iff_iff, iff_false]; decide +kernel
theorem ne_wSubnet_wIp : (wSubnet = wIp) = False := by simp only [eq_iff_iff, iff_false]; decide +kernel
theorem ne_wSubnet_wMac : (wSubnet = wMac) = False := by simp only [eq_iff_iff, iff_false]; decide +kernel
theorem ne_wSubnet_wHost : (wSubnet = wHost) = False := by simp only [eq_iff_iff, iff_false]; decide +kernel
theorem ne_wSubnet_wVni : (wSubnet = wVni) = False := by simp only [eq_iff_iff, iff_false]; decide +kernel
theorem ne_wSubnet_wVia : (wSubnet = wVia) = False := by simp only [eq_iff_iff, iff_false]; decide +kernel
theorem ne_wSubnet_wMetric : (wSubnet = wMetric) = False := by simp only [eq_iff_iff, iff_false]; decide +kernel
theorem ne_wSubnet_wAction : (wSubnet = wAction) = False := by simp only [eq_iff_iff, iff_false]; decide +kernel
theorem ne_wSubnet_wFrom : (wSubnet = wFrom) = False := by simp only [eq_iff_iff, iff_false]; decide +kernel
theorem ne_wSubnet_wTo : (wSubnet = wTo) = False := by simp only [eq_iff_iff, iff_false]; decide +kernel
theorem ne_wHost_wHosts : (wHost = wHosts) = False := by simp only [eq_iff_iff, iff_false]; decide +kernel
theorem ne_wHost_wVnis : (wHost = wVnis) = False := by simp only [eq_iff_iff, iff_false]; decide +kernel
theorem ne_wHost_wBind : (wHost = wBind) = False := by simp only [eq_iff_iff, iff_false]; decide +kernel
theorem ne_wHost_wRoutes : (wHost = wRoutes) = False := by simp only [eq_iff_iff, iff_false]; decide +kernel
theorem ne_wHost_wPolicy : (wHost = wPolicy) = False := by simp only [eq_iff_iff, iff_false]; decide +kernel
theorem ne_wHost_wIp : (wHost = wIp) = False := by simp only [eq_iff_iff, iff_false]; decide +kernel
theorem ne_wHost_wMac : (wHost = wMac) = False := by simp only [eq_iff_iff, iff_false]; decide +kernel
theorem ne_wHost_wSubnet : (wHost = wSubnet) = False := by simp only [eq_iff_iff, iff_false]; decide +kernel
theorem ne_wHost_wVni : (wHost = wVni) = False := by simp only [eq_iff_iff, iff_false]; decide +kernel
theorem ne_wHost_wVia : (wHost = wVia) = False := by simp only [eq_iff_iff, iff_false]; decide +kernel
theorem ne_wHost_wMetric : (wHost = wMetric) = False := by simp only [eq_iff_iff, iff_false]; decide +kernel
theorem ne_wHost_wAction : (wHost = wAction) = False := by simp only [eq_iff_iff, iff_false]; decide +kernel
theorem ne_wHost_wFrom : (wHost = wFrom) = False := by simp only [eq_iff_iff, iff_false]; decide +kernel
theorem ne_wHost_wTo : (wHost = wTo) = False := by simp only [eq_iff_iff, iff_false]; decide +kernel
theorem ne_wVni_wHosts : (wVni = wHosts) = False := by simp only [eq_iff_iff, iff_false]; decide +kernel
theorem ne_wVni_wVnis : (wVni = wVnis) = False := by simp only [eq_iff_iff, iff_false]; decide +kernel
theorem ne_wVni_wBind : (wVni = wBind) = False := by simp only [eq_iff_iff, iff_false]; decide +kernel
theorem ne_wVni_wRoutes : (wVni = wRoutes) = False := by simp only [eq_iff_iff, iff_false]; decide +kernel
theorem ne_wVni_wPolicy : (wVni = wPolicy) = False := by simp only [eq_iff_iff, iff_false]; decide +kernel
theorem ne_wVni_wIp : (wVni = wIp) = False := by simp only [eq_iff_iff, iff_false]; decide +kernel
theorem ne_wVni_wMac : (wVni = wMac) = False := by simp only [eq_iff_iff, iff_false]; decide +kernel
theorem ne_wVni_wSubnet : (wVni = wSubnet) = False := by simp only [eq_iff_iff, iff_false]; decide +kernel
theorem ne_wVni_wHost : (wVni = wHost) = False := by simp only [eq_iff_iff, iff_false]; decide +kernel
theorem ne_wVni_wVia : (wVni = wVia) = False := by simp only [eq_iff_iff, iff_false]; decide +kernel
theorem ne_wVni_wMetric : (wVni = wMetric) = False := by simp only [eq_iff_iff, iff_false]; decide +kernel
theorem ne_wVni_wAction : (wVni = wAction) = False := by simp only [eq_iff_iff, iff_false]; decide +kernel
theorem ne_wVni_wFrom : (wVni = wFrom) = False := by simp only [eq_iff_iff, iff_false]; decide +kernel
theorem ne_wVni_wTo : (wVni = wTo) = False := by simp only [eq_iff_iff, iff_false]; decide +kernel
theorem ne_wVia_wHosts : (wVia = wHosts) = False := by simp only [eq_iff_iff, iff_false]; decide +kernel
theorem ne_wVia_wVnis : (wVia = wVnis) = False := by simp only [eq_iff_iff, iff_false]; decide +kernel
theorem ne_wVia_wBind : (wVia = wBind) = False := by simp only [eq_iff_iff, iff_false]; decide +kernel
theorem ne_wVia_wRoutes : (wVia = wRoutes) = False := by simp only [eq_iff_iff, iff_false]; decide +kernel
theorem ne_wVia_wPolicy : (wVia = wPolicy) = False := by simp only [eq_iff_iff, iff_false]; decide +kernel
theorem ne_wVia_wIp : (wVia = wIp) = False := by simp only [eq_iff_iff, iff_false]; decide +kernel
theorem ne_wVia_wMac : (wVia = wMac) = False := by simp only [eq_iff_iff, iff_false]; decide +kernel
theorem ne_wVia_wSubnet : (wVia = wSubnet) = False := by simp only [eq_iff_iff, iff_false]; decide +kernel
theorem ne_wVia_wHost : (wVia = wHost) = False := by simp only [eq_iff_iff, iff_false]; decide +kernel
theorem ne_wVia_wVni : (wVia = wVni) = False := by simp only [eq_iff_iff, iff_false]; decide +kernel
theorem ne_wVia_wMetric : (wVia = wMetric) = False := by simp only [eq_iff_iff, iff_false]; decide +kernel
theorem ne_wVia_wAction : (wVia = wAction) = False := by simp only [eq_iff_iff, iff_false]; decide +kernel
theorem ne_wVia_wFrom : (wVia = wFrom) = False := by simp only [eq_iff_iff, iff_false]; decide +kernel
theorem ne_wVia_wTo : (wVia = wTo) = False := by simp only [eq_iff_iff, iff_false]; decide +kernel
theorem ne_wMetric_wHosts : (wMetric = wHosts) = False := by simp only [eq_iff_iff, iff_false]; decide +kernel
theorem ne_wMetric_wVnis : (wMetric = wVnis) = False := by simp only [eq_iff_iff, iff_false]; decide +kernel
theorem ne_wMetric_wBind : (wMetric = wBind) = False := by simp only [eq_iff_iff, iff_false]; decide +kernel
theorem ne_wMetric_wRoutes : (wMetric = wRoutes) = False := by simp only [eq_iff_iff, iff_false]; decide +kernel
theorem ne_wMetric_wPolicy : (wMetric = wPolicy) = False := by simp only [eq_iff_iff, iff_false]; decide +kernel
theorem ne_wMetric_wIp : (wMetric = wIp) = False := by simp only [eq_iff_iff, iff_false]; decide +kernel
theorem ne_wMetric_wMac : (wMetric = wMac) = False := by simp only [eq_iff_iff, iff_false]; decide +kernel
theorem ne_wMetric_wSubnet : (wMetric = wSubnet) = False := by simp only [eq_iff_iff, iff_false]; decide +kernel
theorem ne_wMetric_wHost : (wMetric = wHost) = False := by simp only [eq_iff_iff, iff_false]; decide +kernel
theorem ne_wMetric_wVni : (wMetric = wVni) = False := by simp only [eq_iff_iff, iff_false]; decide +kernel
theorem ne_wMetric_wVia : (wMetric = wVia) = False := by simp only [eq_iff_iff, iff_false]; decide +kernel
theorem ne_wMetric_wAction : (wMetric = wAction) = False := by simp only [eq_iff_iff, iff_false]; decide +kernel
theorem ne_wMetric_wFrom : (wMetric = wFrom) = False := by simp only [eq_iff_iff, iff_false]; decide +kernel
theorem ne_wMetric_wTo : (wMetric = wTo) = False := by simp only [eq_iff_iff, iff_false]; decide +kernel
theorem ne_wAction_wHosts : (wAction = wHosts) = False := by simp only [eq_iff_iff, iff_false]; decide +kernel
theorem ne_wAction_wVnis : (wAction = wVnis) = False := by simp only [eq_iff_iff, iff_false]; decide +kernel
theorem ne_wAction_wBind : (wAction = wBind) = False := by simp only [eq_iff_iff, iff_false]; decide +kernel
theorem ne_wAction_wRoutes : (wAction = wRoutes) = False := by simp only [eq_iff_iff, iff_false]; decide +kernel
theorem ne_wAction_wPolicy : (wAction = wPolicy) = False := by simp only [eq_iff_iff, iff_false]; decide +kernel
theorem ne_wAction_wIp : (wAction = wIp) = False := by simp only [eq_iff_iff, iff_false]; decide +kernel
theorem ne_wAction_wMac : (wAction = wMac) = False := by simp only [eq_iff_iff, iff_false]; decide +kernel
theorem ne_wAction_wSubnet : (wAction = wSubnet) = False := by simp only [eq_iff_iff, iff_false]; decide +kernel
theorem ne_wAction_wHost : (wAction = wHost) = False := by simp only [eq_iff_iff, iff_false]; decide +kernel
theorem ne_wAction_wVni : (wAction = wVni) = False := by simp only [eq_iff_iff, iff_false]; decide +kernel
theorem ne_wAction_wVia : (wAction = wVia) = False := by simp only [eq_iff_iff, iff_false]; decide +kernel
theorem ne_wAction_wMetric : (wAction = wMetric) = False := by simp only [eq_iff_iff, iff_false]; decide +kernel
theorem ne_wAction_wFrom : (wAction = wFrom) = False := by simp only [eq_iff_iff, iff_false]; decide +kernel
theorem ne_wAction_wTo : (wAction = wTo) = False := by simp only [eq_iff_iff, iff_false]; decide +kernel
theorem ne_wFrom_wHosts : (wFrom = wHosts) = False := by simp only [eq_iff_iff, iff_false]; decide +kernel
theorem ne_wFrom_wVnis : (wFrom = wVnis) = False := by simp only [eq_iff_iff, iff_false]; decide +kernel
theorem ne_wFrom_wBind : (wFrom = wBind) = False := by simp only [eq_iff_iff, iff_false]; decide +kernel
theorem ne_wFrom_wRoutes : (wFrom = wRoutes) = False := by simp only [eq_iff_iff, iff_false]; decide +kernel
theorem ne_wFrom_wPolicy : (wFrom = wPolicy) = False := by simp only [eq_iff_iff, iff_false]; decide +kernel
theorem ne_wFrom_wIp : (wFrom = wIp) = False := by simp only [eq_iff_iff, iff_false]; decide +kernel
theorem ne_wFrom_wMac : (wFrom = wMac) = False := by simp only [eq_iff_iff, iff_false]; decide +kernel
theorem ne_wFrom_wSubnet : (wFrom = wSubnet) = False := by simp only [eq_iff_iff, iff_false]; decide +kernel
theorem ne_wFrom_wHost : (wFrom = wHost) = False := by simp only [eq_iff_iff, iff_false]; decide +kernel
theorem ne_wFrom_wVni : (wFrom = wVni) = False := by simp only [eq_iff_iff, iff_false]; decide +kernel
theorem ne_wFrom_wVia : (wFrom = wVia) = False := by simp only [eq_iff_iff, iff_false]; decide +kernel
theorem ne_wFrom_wMetric : (wFrom = wMetric) = False := by simp only [eq_iff_iff, iff_false]; decide +kernel
theorem ne_wFrom_wAction : (wFrom = wAction) = False := by simp only [eq_iff_iff, iff_false]; decide +kernel
theorem ne_wFrom_wTo : (wFrom = wTo) = False := by simp only [eq_iff_iff, iff_false]; decide +kernel
theorem ne_wTo_wHosts : (wTo = wHosts) = False := by simp only [eq_iff_iff, iff_false]; decide +kernel
theorem ne_wTo_wVnis : (wTo = wVnis) = False := by simp only [eq_iff_iff, iff_false]; decide +kernel
theorem ne_wTo_wBind : (wTo = wBind) = False := by simp only [eq_iff_iff, iff_false]; decide +kernel
theorem ne_wTo_wRoutes : (wTo = wRoutes) = False := by simp only [eq_iff_iff, iff_false]; decide +kernel
theorem ne_wTo_wPolicy : (wTo = wPolicy) = False := by simp only [eq_iff_iff, iff_false]; decide +kernel
theorem ne_wTo_wIp : (wTo = wIp) = False := by simp only [eq_iff_iff, iff_false]; decide +kernel
theorem ne_wTo_wMac : (wTo = wMac) = False := by simp only [eq_iff_iff, iff_false]; decide +kernel
theorem ne_wTo_wSubnet : (wTo = wSubnet) = False := by simp only [eq_iff_iff, iff_false]; decide +kernel
theorem ne_wTo_wHost : (wTo = wHost) = False := by simp only [eq_iff_iff, iff_false]; decide +kernel
theorem ne_wTo_wVni : (wTo = wVni) = False := by simp only [eq_iff_iff, iff_false]; decide +kernel
theorem ne_wTo_wVia : (wTo = wVia) = False := by simp only [eq_iff_iff, iff_false]; decide +kernel
theorem ne_wTo_wMetric : (wTo = wMetric) = False := by simp only [eq_iff_iff, iff_false]; decide +kernel
theorem ne_wTo_wAction : (wTo = wAction) = False := by simp only [eq_iff_iff, iff_false]; decide +kernel
theorem ne_wTo_wFrom : (wTo = wFrom) = False := by simp only [eq_iff_iff, iff_false]; decide +kernel
theorem em_tName : (tName = ⟨#[]⟩) = False := by simp only [eq_iff_iff, iff_false]; decide +kernel
theorem em_tIp : (tIp = ⟨#[]⟩) = False := by simp only [eq_iff_iff, iff_false]; decide +kernel
theorem em_tPrefix : (tPrefix = ⟨#[]⟩) = False := by simp only [eq_iff_iff, iff_false]; decide +kernel
theorem em_tMac : (tMac = ⟨#[]⟩) = False := by simp only [eq_iff_iff, iff_false]; decide +kernel
theorem em_tVni : (tVni = ⟨#[]⟩) = False := by simp only [eq_iff_iff, iff_false]; decide +kernel
theorem em_tNum : (tNum = ⟨#[]⟩) = False := by simp only [eq_iff_iff, iff_false]; decide +kernel
theorem em_tMetric : (tMetric = ⟨#[]⟩) = False := by simp only [eq_iff_iff, iff_false]; decide +kernel
theorem em_tAction : (tAction = ⟨#[]⟩) = False := by simp only [eq_iff_iff, iff_false]; decide +kernel
theorem type_none (w : ByteArray) : typeB ⟨#[]⟩ w = false := by
 unfold typeB
 repeat rw [if_neg (by decide +kernel)]
theorem heads (a : ByteArray) : a = wHosts ∨ a = wVnis ∨ a = wBind ∨ a = wRoutes ∨ a = wPolicy ∨ (a ≠ wHosts ∧ a ≠ wVnis ∧ a ≠ wBind ∧ a ≠ wRoutes ∧ a ≠ wPolicy) := by
 by_cases h1 : a = wHosts; · exact .inl h1
 by_cases h2 : a = wVnis; · exact .inr (.inl h2)
 by_cases h3 : a = wBind; · exact .inr (.inr (.inl h3))
 by_cases h4 : a = wRoutes; · exact .inr (.inr (.inr (.inl h4)))
 by_cases h5 : a = wPolicy; · exact .inr (.inr (.inr (.inr (.inl h5))))
 exact .inr (.inr (.inr (.inr (.inr ⟨h1, h2, h3, h4, h5⟩))))
theorem match_nil_cons (w : ByteArray) (ws : List ByteArray) : matchB [] (w :: ws) = false := rfl
theorem match_cons_nil (p : ByteArray) (ps : List ByteArray) : matchB (p :: ps) [] = false := rfl
theorem match_nil : matchB [] [] = true := rfl
theorem match_cons (p w : ByteArray) (ps ws : List ByteArray) : matchB (p :: ps) (w :: ws) = (fitsB p w && matchB ps ws) := rfl
theorem match_len : ∀ {p q : List ByteArray}, matchB p q = true → p.length = q.length
 | [], [], _ => rfl
 | p :: ps, w :: ws, h => by
   rw [match_cons, Bool.and_eq_true] at h
   rw [List.length_cons, List.length_cons, match_len h.2]
 | [], _ :: _, h => by cases h
 | _ :: _, [], h => by cases h
theorem match_short {p q : List ByteArray} (h : p.length ≠ q.length) : matchB p q = false := by
 rw [Bool.eq_false_iff]; exact fun h2 => h (match_len h2)
attribute [local simp] List.find?_cons match_cons match_nil match_nil_cons match_cons_nil fits_wHosts fits_wIp fits_wMac fits_wVnis fits_wSubnet fits_wBind fits_wHost fits_wVni fits_wRoutes fits_wVia fits_wMetric fits_wPolicy fits_wAction fits_wFrom fits_wTo fits_wPermit fits_wDeny fits_tName fits_tIp fits_tPrefix fits_tMac fits_tVni fits_tNum fits_tMetric fits_tAction ne_wHosts_wVnis ne_wHosts_wBind ne_wHosts_wRoutes ne_wHosts_wPolicy ne_wHosts_wIp ne_wHosts_wMac ne_wHosts_wSubnet ne_wHosts_wHost ne_wHosts_wVni ne_wHosts_wVia ne_wHosts_wMetric ne_wHosts_wAction ne_wHosts_wFrom ne_wHosts_wTo ne_wVnis_wHosts ne_wVnis_wBind ne_wVnis_wRoutes ne_wVnis_wPolicy ne_wVnis_wIp ne_wVnis_wMac ne_wVnis_wSubnet ne_wVnis_wHost ne_wVnis_wVni ne_wVnis_wVia ne_wVnis_wMetric ne_wVnis_wAction ne_wVnis_wFrom ne_wVnis_wTo ne_wBind_wHosts ne_wBind_wVnis ne_wBind_wRoutes ne_wBind_wPolicy ne_wBind_wIp ne_wBind_wMac ne_wBind_wSubnet ne_wBind_wHost ne_wBind_wVni ne_wBind_wVia ne_wBind_wMetric ne_wBind_wAction ne_wBind_wFrom ne_wBind_wTo ne_wRoutes_wHosts ne_wRoutes_wVnis ne_wRoutes_wBind ne_wRoutes_wPolicy ne_wRoutes_wIp ne_wRoutes_wMac ne_wRoutes_wSubnet ne_wRoutes_wHost ne_wRoutes_wVni ne_wRoutes_wVia ne_wRoutes_wMetric ne_wRoutes_wAction ne_wRoutes_wFrom ne_wRoutes_wTo ne_wPolicy_wHosts ne_wPolicy_wVnis ne_wPolicy_wBind ne_wPolicy_wRoutes ne_wPolicy_wIp ne_wPolicy_wMac ne_wPolicy_wSubnet ne_wPolicy_wHost ne_wPolicy_wVni ne_wPolicy_wVia ne_wPolicy_wMetric ne_wPolicy_wAction ne_wPolicy_wFrom ne_wPolicy_wTo ne_wIp_wHosts ne_wIp_wVnis ne_wIp_wBind ne_wIp_wRoutes ne_wIp_wPolicy ne_wIp_wMac ne_wIp_wSubnet ne_wIp_wHost ne_wIp_wVni ne_wIp_wVia ne_wIp_wMetric ne_wIp_wAction ne_wIp_wFrom ne_wIp_wTo ne_wMac_wHosts ne_wMac_wVnis ne_wMac_wBind ne_wMac_wRoutes ne_wMac_wPolicy ne_wMac_wIp ne_wMac_wSubnet ne_wMac_wHost ne_wMac_wVni ne_wMac_wVia ne_wMac_wMetric ne_wMac_wAction ne_wMac_wFrom ne_wMac_wTo ne_wSubnet_wHosts ne_wSubnet_wVnis ne_wSubnet_wBind ne_wSubnet_wRoutes ne_wSubnet_wPolicy ne_wSubnet_wIp ne_wSubnet_wMac ne_wSubnet_wHost ne_wSubnet_wVni ne_wSubnet_wVia ne_wSubnet_wMetric ne_wSubnet_wAction ne_wSubnet_wFrom ne_wSubnet_wTo ne_wHost_wHosts ne_wHost_wVnis ne_wHost_wBind ne_wHost_wRoutes ne_wHost_wPolicy ne_wHost_wIp ne_wHost_wMac ne_wHost_wSubnet ne_wHost_wVni ne_wHost_wVia ne_wHost_wMetric ne_wHost_wAction ne_wHost_wFrom ne_wHost_wTo ne_wVni_wHosts ne_wVni_wVnis ne_wVni_wBind ne_wVni_wRoutes ne_wVni_wPolicy ne_wVni_wIp ne_wVni_wMac ne_wVni_wSubnet ne_wVni_wHost ne_wVni_wVia ne_wVni_wMetric ne_wVni_wAction ne_wVni_wFrom ne_wVni_wTo ne_wVia_wHosts ne_wVia_wVnis ne_wVia_wBind ne_wVia_wRoutes ne_wVia_wPolicy ne_wVia_wIp ne_wVia_wMac ne_wVia_wSubnet ne_wVia_wHost ne_wVia_wVni ne_wVia_wMetric ne_wVia_wAction ne_wVia_wFrom ne_wVia_wTo ne_wMetric_wHosts ne_wMetric_wVnis ne_wMetric_wBind ne_wMetric_wRoutes ne_wMetric_wPolicy ne_wMetric_wIp ne_wMetric_wMac ne_wMetric_wSubnet ne_wMetric_wHost ne_wMetric_wVni ne_wMetric_wVia ne_wMetric_wAction ne_wMetric_wFrom ne_wMetric_wTo ne_wAction_wHosts ne_wAction_wVnis ne_wAction_wBind ne_wAction_wRoutes ne_wAction_wPolicy ne_wAction_wIp ne_wAction_wMac ne_wAction_wSubnet ne_wAction_wHost ne_wAction_wVni ne_wAction_wVia ne_wAction_wMetric ne_wAction_wFrom ne_wAction_wTo ne_wFrom_wHosts ne_wFrom_wVnis ne_wFrom_wBind ne_wFrom_wRoutes ne_wFrom_wPolicy ne_wFrom_wIp ne_wFrom_wMac ne_wFrom_wSubnet ne_wFrom_wHost ne_wFrom_wVni ne_wFrom_wVia ne_wFrom_wMetric ne_wFrom_wAction ne_wFrom_wTo ne_wTo_wHosts ne_wTo_wVnis ne_wTo_wBind ne_wTo_wRoutes ne_wTo_wPolicy ne_wTo_wIp ne_wTo_wMac ne_wTo_wSubnet ne_wTo_wHost ne_wTo_wVni ne_wTo_wVia ne_wTo_wMetric ne_wTo_wAction ne_wTo_wFrom em_tName em_tIp em_tPrefix em_tMac em_tVni em_tNum em_tMetric em_tAction
theorem second_hosts : secondB wHosts = tName := by decide +kernel
theorem second_vnis : secondB wVnis = tVni := by decide +kernel
theorem second_bind : secondB wBind = tIp := by decide +kernel
theorem second_routes : secondB wRoutes = tPrefix := by decide +kernel
theorem second_policy : secondB wPolicy = tNum := by decide +kernel
theorem second_none {a : ByteArray} (h1 : a ≠ wHosts) (h2 : a ≠ wVnis) (h3 : a ≠ wBind) (h4 : a ≠ wRoutes) (h5 : a ≠ wPolicy) : secondB a = ⟨#[]⟩ := by
 unfold secondB; rw [if_neg h1, if_neg h2, if_neg h3, if_neg h4, if_neg h5]
theorem third_hosts_wIp : thirdB wHosts wIp = (tIp, true, true) := by decide +kernel
theorem third_hosts_wMac : thirdB wHosts wMac = (tMac, true, false) := by decide +kernel
theorem third_hosts_wVnis : thirdB wHosts wVnis = (tVni, false, false) := by decide +kernel
theorem third_hosts_none {c : ByteArray} (h0 : c ≠ wIp) (h1 : c ≠ wMac) (h2 : c ≠ wVnis) : thirdB wHosts c = (⟨#[]⟩, false, false) := by
 unfold thirdB; simp [h0, h1, h2]
theorem third_vnis_wSubnet : thirdB wVnis wSubnet = (tPrefix, true, true) := by decide +kernel
theorem third_vnis_none {c : ByteArray} (h0 : c ≠ wSubnet) : thirdB wVnis c = (⟨#[]⟩, false, false) := by
 unfold thirdB; simp [h0]
theorem third_bind_wHost : thirdB wBind wHost = (tName, true, true) := by decide +kernel
theorem third_bind_wMac : thirdB wBind wMac = (tMac, true, true) := by decide +kernel
theorem third_bind_wVni : thirdB wBind wVni = (tVni, true, true) := by decide +kernel
theorem third_bind_none {c : ByteArray} (h0 : c ≠ wHost) (h1 : c ≠ wMac) (h2 : c ≠ wVni) : thirdB wBind c = (⟨#[]⟩, false, false) := by
 unfold thirdB; simp [h0, h1, h2]
theorem third_routes_wVia : thirdB wRoutes wVia = (tName, true, true) := by decide +kernel
theorem third_routes_wMetric : thirdB wRoutes wMetric = (tMetric, true, false) := by decide +kernel
theorem third_routes_none {c : ByteArray} (h0 : c ≠ wVia) (h1 : c ≠ wMetric) : thirdB wRoutes c = (⟨#[]⟩, false, false) := by
 unfold thirdB; simp [h0, h1]
theorem third_policy_wAction : thirdB wPolicy wAction = (tAction, true, true) := by decide +kernel
theorem third_policy_wFrom : thirdB wPolicy wFrom = (tPrefix, true, false) := by decide +kernel
theorem third_policy_wTo : thirdB wPolicy wTo = (tPrefix, true, false) := by decide +kernel
theorem third_policy_none {c : ByteArray} (h0 : c ≠ wAction) (h1 : c ≠ wFrom) (h2 : c ≠ wTo) : thirdB wPolicy c = (⟨#[]⟩, false, false) := by
 unfold thirdB; simp [h0, h1, h2]
theorem rule_0 : ruleOf [] = none := by
 unfold ruleOf rulesB; simp
theorem rule_1 (a : ByteArray) : ruleOf [a] = if secondB a = ⟨#[]⟩ then none else some ⟨[a], false, false⟩ := by
 unfold ruleOf rulesB
 rcases heads a with rfl | rfl | rfl | rfl | rfl | ⟨h1, h2, h3, h4, h5⟩
 · rw [second_hosts]; simp
 · rw [second_vnis]; simp
 · rw [second_bind]; simp
 · rw [second_routes]; simp
 · rw [second_policy]; simp
 · rw [second_none h1 h2 h3 h4 h5]; simp [h1, h2, h3, h4, h5]
theorem rule_2 (a b : ByteArray) : ruleOf [a, b] = if typeB (secondB a) b then some ⟨[a, secondB a], false, false⟩ else none := by
 unfold ruleOf rulesB
 rcases heads a with rfl | rfl | rfl | rfl | rfl | ⟨h1, h2, h3, h4, h5⟩
 · rw [second_hosts]; cases h : typeB tName b <;> simp [h]
 · rw [second_vnis]; cases h : typeB tVni b <;> simp [h]
 · rw [second_bind]; cases h : typeB tIp b <;> simp [h]
 · rw [second_routes]; cases h : typeB tPrefix b <;> simp [h]
 · rw [second_policy]; cases h : typeB tNum b <;> simp [h]
 · rw [second_none h1 h2 h3 h4 h5, type_none]; simp [h1, h2, h3, h4, h5]
theorem rule_3 (a b c : ByteArray) : ruleOf [a, b, c] = if (typeB (secondB a) b && !(decide ((thirdB a c).1 = ⟨#[]⟩))) = true then some ⟨[a, secondB a, c], (thirdB a c).2.1, (thirdB a c).2.2⟩ else none := by
 unfold ruleOf rulesB
 rcases heads a with rfl | rfl | rfl | rfl | rfl | ⟨h1, h2, h3, h4, h5⟩
 · rw [second_hosts]
   by_cases e0 : c = wIp
   · subst e0; rw [third_hosts_wIp]; cases h : typeB tName b <;> simp [h]
   by_cases e1 : c = wMac
   · subst e1; rw [third_hosts_wMac]; cases h : typeB tName b <;> simp [h]
   by_cases e2 : c = wVnis
   · subst e2; rw [third_hosts_wVnis]; cases h : typeB tName b <;> simp [h]
   rw [third_hosts_none e0 e1 e2]; cases h : typeB tName b <;> simp [h, e0, e1, e2]
 · rw [second_vnis]
   by_cases e0 : c = wSubnet
   · subst e0; rw [third_vnis_wSubnet]; cases h : typeB tVni b <;> simp [h]
   rw [third_vnis_none e0]; cases h : typeB tVni b <;> simp [h, e0]
 · rw [second_bind]
   by_cases e0 : c = wHost
   · subst e0; rw [third_bind_wHost]; cases h : typeB tIp b <;> simp [h]
   by_cases e1 : c = wMac
   · subst e1; rw [third_bind_wMac]; cases h : typeB tIp b <;> simp [h]
   by_cases e2 : c = wVni
   · subst e2; rw [third_bind_wVni]; cases h : typeB tIp b <;> simp [h]
   rw [third_bind_none e0 e1 e2]; cases h : typeB tIp b <;> simp [h, e0, e1, e2]
 · rw [second_routes]
   by_cases e0 : c = wVia
   · subst e0; rw [third_routes_wVia]; cases h : typeB tPrefix b <;> simp [h]
   by_cases e1 : c = wMetric
   · subst e1; rw [third_routes_wMetric]; cases h : typeB tPrefix b <;> simp [h]
   rw [third_routes_none e0 e1]; cases h : typeB tPrefix b <;> simp [h, e0, e1]
 · rw [second_policy]
   by_cases e0 : c = wAction
   · subst e0; rw [third_policy_wAction]; cases h : typeB tNum b <;> simp [h]
   by_cases e1 : c = wFrom
   · subst e1; rw [third_policy_wFrom]; cases h : typeB tNum b <;> simp [h]
   by_cases e2 : c = wTo
   · subst e2; rw [third_policy_wTo]; cases h : typeB tNum b <;> simp [h]
   rw [third_policy_none e0 e1 e2]; cases h : typeB tNum b <;> simp [h, e0, e1, e2]
 · rw [second_none h1 h2 h3 h4 h5, type_none]; simp [h1, h2, h3, h4, h5]
theorem rule_4 (a b c d : ByteArray) : ruleOf [a, b, c, d] = if (typeB (secondB a) b && typeB (thirdB a c).1 d) = true then some ⟨[a, secondB a, c, (thirdB a c).1], false, false⟩ else none := by
 unfold ruleOf rulesB
 rcases heads a with rfl | rfl | rfl | rfl | rfl | ⟨h1, h2, h3, h4, h5⟩
 · rw [second_hosts]
   by_cases e0 : c = wIp
   · subst e0; rw [third_hosts_wIp]; cases h : typeB tName b <;> cases k : typeB tIp d <;> simp [h, k]
   by_cases e1 : c = wMac
   · subst e1; rw [third_hosts_wMac]; cases h : typeB tName b <;> cases k : typeB tMac d <;> simp [h, k]
   by_cases e2 : c = wVnis
   · subst e2; rw [third_hosts_wVnis]; cases h : typeB tName b <;> cases k : typeB tVni d <;> simp [h, k]
   rw [third_hosts_none e0 e1 e2]; rw [type_none]; cases h : typeB tName b <;> simp [h, e0, e1, e2]
 · rw [second_vnis]
   by_cases e0 : c = wSubnet
   · subst e0; rw [third_vnis_wSubnet]; cases h : typeB tVni b <;> cases k : typeB tPrefix d <;> simp [h, k]
   rw [third_vnis_none e0]; rw [type_none]; cases h : typeB tVni b <;> simp [h, e0]
 · rw [second_bind]
   by_cases e0 : c = wHost
   · subst e0; rw [third_bind_wHost]; cases h : typeB tIp b <;> cases k : typeB tName d <;> simp [h, k]
   by_cases e1 : c = wMac
   · subst e1; rw [third_bind_wMac]; cases h : typeB tIp b <;> cases k : typeB tMac d <;> simp [h, k]
   by_cases e2 : c = wVni
   · subst e2; rw [third_bind_wVni]; cases h : typeB tIp b <;> cases k : typeB tVni d <;> simp [h, k]
   rw [third_bind_none e0 e1 e2]; rw [type_none]; cases h : typeB tIp b <;> simp [h, e0, e1, e2]
 · rw [second_routes]
   by_cases e0 : c = wVia
   · subst e0; rw [third_routes_wVia]; cases h : typeB tPrefix b <;> cases k : typeB tName d <;> simp [h, k]
   by_cases e1 : c = wMetric
   · subst e1; rw [third_routes_wMetric]; cases h : typeB tPrefix b <;> cases k : typeB tMetric d <;> simp [h, k]
   rw [third_routes_none e0 e1]; rw [type_none]; cases h : typeB tPrefix b <;> simp [h, e0, e1]
 · rw [second_policy]
   by_cases e0 : c = wAction
   · subst e0; rw [third_policy_wAction]; cases h : typeB tNum b <;> cases k : typeB tAction d <;> simp [h, k]
   by_cases e1 : c = wFrom
   · subst e1; rw [third_policy_wFrom]; cases h : typeB tNum b <;> cases k : typeB tPrefix d <;> simp [h, k]
   by_cases e2 : c = wTo
   · subst e2; rw [third_policy_wTo]; cases h : typeB tNum b <;> cases k : typeB tPrefix d <;> simp [h, k]
   rw [third_policy_none e0 e1 e2]; rw [type_none]; cases h : typeB tNum b <;> simp [h, e0, e1, e2]
 · rw [second_none h1 h2 h3 h4 h5, type_none]; simp [h1, h2, h3, h4, h5]
theorem rule_long {p : List ByteArray} (h : 4 < p.length) : ruleOf p = none := by
 unfold ruleOf
 rw [List.find?_eq_none]
 intro r hr
 have hall : ∀ r ∈ rulesB, r.path.length ≤ 4 := by decide +kernel
 have := hall r hr
 rw [match_short (by omega)]; simp
theorem form_1 (a : ByteArray) : unknownOf [a] = 3 := by
 unfold unknownOf
 rw [if_neg]
 unfold rulesB formB; simp [ty_wHosts, ty_wVnis, ty_wBind, ty_wRoutes, ty_wPolicy]
theorem form_2 (a b : ByteArray) (h : secondB a ≠ ⟨#[]⟩) : unknownOf [a, b] = 2 := by
 unfold unknownOf
 rw [if_pos]
 unfold rulesB formB
 rcases heads a with rfl | rfl | rfl | rfl | rfl | ⟨h1, h2, h3, h4, h5⟩
 · simp [ty_tName, ty_tIp, ty_tPrefix, ty_tVni, ty_tNum]
 · simp [ty_tName, ty_tIp, ty_tPrefix, ty_tVni, ty_tNum]
 · simp [ty_tName, ty_tIp, ty_tPrefix, ty_tVni, ty_tNum]
 · simp [ty_tName, ty_tIp, ty_tPrefix, ty_tVni, ty_tNum]
 · simp [ty_tName, ty_tIp, ty_tPrefix, ty_tVni, ty_tNum]
 · exact absurd (second_none h1 h2 h3 h4 h5) h
theorem form_3 (a b c : ByteArray) : unknownOf [a, b, c] = 3 := by
 unfold unknownOf
 rw [if_neg]
 unfold rulesB formB; simp [ty_wIp, ty_wMac, ty_wVnis, ty_wSubnet, ty_wHost, ty_wVni, ty_wVia, ty_wMetric, ty_wAction, ty_wFrom, ty_wTo]
theorem form_4 (a b c d : ByteArray) (h : typeB (secondB a) b = true) (k : (thirdB a c).1 ≠ ⟨#[]⟩) : unknownOf [a, b, c, d] = 2 := by
 unfold unknownOf
 rw [if_pos]
 unfold rulesB formB
 rcases heads a with rfl | rfl | rfl | rfl | rfl | ⟨h1, h2, h3, h4, h5⟩
 · rw [second_hosts] at h
   by_cases e0 : c = wIp
   · subst e0; simp [h, ty_tName, ty_tIp, ty_tPrefix, ty_tMac, ty_tVni, ty_tMetric, ty_tAction]
   by_cases e1 : c = wMac
   · subst e1; simp [h, ty_tName, ty_tIp, ty_tPrefix, ty_tMac, ty_tVni, ty_tMetric, ty_tAction]
   by_cases e2 : c = wVnis
   · subst e2; simp [h, ty_tName, ty_tIp, ty_tPrefix, ty_tMac, ty_tVni, ty_tMetric, ty_tAction]
   exact absurd (by rw [third_hosts_none e0 e1 e2]) k
 · rw [second_vnis] at h
   by_cases e0 : c = wSubnet
   · subst e0; simp [h, ty_tName, ty_tIp, ty_tPrefix, ty_tMac, ty_tVni, ty_tMetric, ty_tAction]
   exact absurd (by rw [third_vnis_none e0]) k
 · rw [second_bind] at h
   by_cases e0 : c = wHost
   · subst e0; simp [h, ty_tName, ty_tIp, ty_tPrefix, ty_tMac, ty_tVni, ty_tMetric, ty_tAction]
   by_cases e1 : c = wMac
   · subst e1; simp [h, ty_tName, ty_tIp, ty_tPrefix, ty_tMac, ty_tVni, ty_tMetric, ty_tAction]
   by_cases e2 : c = wVni
   · subst e2; simp [h, ty_tName, ty_tIp, ty_tPrefix, ty_tMac, ty_tVni, ty_tMetric, ty_tAction]
   exact absurd (by rw [third_bind_none e0 e1 e2]) k
 · rw [second_routes] at h
   by_cases e0 : c = wVia
   · subst e0; simp [h, ty_tName, ty_tIp, ty_tPrefix, ty_tMac, ty_tVni, ty_tMetric, ty_tAction]
   by_cases e1 : c = wMetric
   · subst e1; simp [h, ty_tName, ty_tIp, ty_tPrefix, ty_tMac, ty_tVni, ty_tMetric, ty_tAction]
   exact absurd (by rw [third_routes_none e0 e1]) k
 · rw [second_policy] at h
   by_cases e0 : c = wAction
   · subst e0; simp [h, ty_tName, ty_tIp, ty_tPrefix, ty_tMac, ty_tVni, ty_tMetric, ty_tAction]
   by_cases e1 : c = wFrom
   · subst e1; simp [h, ty_tName, ty_tIp, ty_tPrefix, ty_tMac, ty_tVni, ty_tMetric, ty_tAction]
   by_cases e2 : c = wTo
   · subst e2; simp [h, ty_tName, ty_tIp, ty_tPrefix, ty_tMac, ty_tVni, ty_tMetric, ty_tAction]
   exact absurd (by rw [third_policy_none e0 e1 e2]) k
 · rw [second_none h1 h2 h3 h4 h5, type_none] at h; cases h
theorem form_long {p : List ByteArray} (h : 4 < p.length) : unknownOf p = 3 := by
 unfold unknownOf
 rw [if_neg]
 rw [List.any_eq_true]
 rintro ⟨r, hr, h2⟩
 have hall : ∀ r ∈ rulesB, r.path.length ≤ 4 := by decide +kernel
 have := hall r hr
 unfold formB at h2
 simp only [Bool.and_eq_true, decide_eq_true_eq] at h2
 omega
theorem needs_2 (a b : ByteArray) : needsOf [a, b] = if typeB (secondB a) b then needs2 a else [] := by
 unfold needsOf rulesB needB lastW
 rcases heads a with rfl | rfl | rfl | rfl | rfl | ⟨h1, h2, h3, h4, h5⟩
 · rw [second_hosts]; cases h : typeB tName b <;> simp [h, needs2]
 · rw [second_vnis]; cases h : typeB tVni b <;> simp [h, needs2]
 · rw [second_bind]; cases h : typeB tIp b <;> simp [h, needs2]
 · rw [second_routes]; cases h : typeB tPrefix b <;> simp [h, needs2]
 · rw [second_policy]; cases h : typeB tNum b <;> simp [h, needs2]
 · rw [second_none h1 h2 h3 h4 h5, type_none]; simp [h1, h2, h3, h4, h5]
theorem needs_other {p : List ByteArray} (h : p.length ≠ 2) : needsOf p = [] := by
 unfold needsOf
 have hall : ∀ r ∈ rulesB, r.needed = true → (r.path.take (r.path.length - 1)).length = 2 := by decide +kernel
 rw [List.filter_eq_nil_iff.2]
 · rfl
 · intro r hr h2
   unfold needB at h2
   rw [Bool.and_eq_true] at h2
   have := match_len h2.2
   rw [hall r hr h2.1] at this
   omega
end Sch
