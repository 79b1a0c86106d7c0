/- Plain facts: what a configuration may say: types, statements, faults. No program in sight. Words for memory: lists whose elements begin with a path (a slice of strings of its own). Steps of a region that draws: an append of one string, of one element that begins with a path. -/
import Derived.Deep.AppendLies
import Derived.Test.YtlldjkhlhfnfeaaGreatDoorGd
import Derived.Test.YtlldjkhlhfnfeaaGreatDoorGg
import Derived.Test.YtlldjkhlhfnfeaaGreatDoorGc
import Derived.Test.YtlldjkhlhfnfeaaGreatDoorGa
namespace Sch
open Go Go.Lib Adr Mtr Tre
def wHosts : ByteArray := ⟨#[104, 111, 115, 116, 115]⟩
def wIp : ByteArray := ⟨#[105, 112]⟩
def wMac : ByteArray := ⟨#[109, 97, 99]⟩
def wVnis : ByteArray := ⟨#[118, 110, 105, 115]⟩
def wSubnet : ByteArray := ⟨#[115, 117, 98, 110, 101, 116]⟩
def wBind : ByteArray := ⟨#[98, 105, 110, 100, 105, 110, 103, 115]⟩
def wHost : ByteArray := ⟨#[104, 111, 115, 116]⟩
def wVni : ByteArray := ⟨#[118, 110, 105]⟩
def wRoutes : ByteArray := ⟨#[114, 111, 117, 116, 101, 115]⟩
def wVia : ByteArray := ⟨#[118, 105, 97]⟩
def wMetric : ByteArray := ⟨#[109, 101, 116, 114, 105, 99]⟩
def wPolicy : ByteArray := ⟨#[112, 111, 108, 105, 99, 121]⟩
def wAction : ByteArray := ⟨#[97, 99, 116, 105, 111, 110]⟩
def wFrom : ByteArray := ⟨#[102, 114, 111, 109]⟩
def wTo : ByteArray := ⟨#[116, 111]⟩
def tName : ByteArray := ⟨#[36, 110, 97, 109, 101]⟩
def tIp : ByteArray := ⟨#[36, 105, 112]⟩
def tPrefix : ByteArray := ⟨#[36, 112, 114, 101, 102, 105, 120]⟩
def tMac : ByteArray := ⟨#[36, 109, 97, 99]⟩
def tVni : ByteArray := ⟨#[36, 118, 110, 105]⟩
def tNum : ByteArray := ⟨#[36, 110, 117, 109]⟩
def tMetric : ByteArray := ⟨#[36, 109, 101, 116, 114, 105, 99]⟩
def tAction : ByteArray := ⟨#[36, 97, 99, 116, 105, 111, 110]⟩
def wPermit : ByteArray := ⟨#[112, 101, 114, 109, 105, 116]⟩
def wDeny : ByteArray := ⟨#[100, 101, 110, 121]⟩
def isLow (c : UInt8) : Bool := decide (97 ≤ c.toNat) && decide (c.toNat ≤ 122)
def isNm (c : UInt8) : Bool := isLow c || isDig c || c == 45
/-- May a host be called so? -/
def nameB (l : List UInt8) : Bool := decide (1 ≤ l.length) && decide (l.length ≤ 16) && isLow (l.getD 0 0) && l.all isNm
/-- Is a word of a type? -/
def typeB (k w : ByteArray) : Bool :=
  if k = tName then nameB w.data.toList else if k = tIp then decide (0 ≤ ip w.data.toList) else if k = tPrefix then decide (0 ≤ (pre w.data.toList).1)
  else if k = tMac then decide (0 ≤ mac w.data.toList) else if k = tVni then numIn w.data.toList 1 16777215 else if k = tNum then numIn w.data.toList 1 1000
  else if k = tMetric then readOk w.data.toList else if k = tAction then (decide (w = wPermit) || decide (w = wDeny)) else false
/-- A statement: its path, and whether it holds one, and is needed. -/
structure Rule where
  path : List ByteArray
  one : Bool
  needed : Bool
def rulesB : List Rule := [
  ⟨[wHosts], false, false⟩,
  ⟨[wHosts, tName], false, false⟩,
  ⟨[wHosts, tName, wIp], true, true⟩,
  ⟨[wHosts, tName, wIp, tIp], false, false⟩,
  ⟨[wHosts, tName, wMac], true, false⟩,
  ⟨[wHosts, tName, wMac, tMac], false, false⟩,
  ⟨[wHosts, tName, wVnis], false, false⟩,
  ⟨[wHosts, tName, wVnis, tVni], false, false⟩,
  ⟨[wVnis], false, false⟩,
  ⟨[wVnis, tVni], false, false⟩,
  ⟨[wVnis, tVni, wSubnet], true, true⟩,
  ⟨[wVnis, tVni, wSubnet, tPrefix], false, false⟩,
  ⟨[wBind], false, false⟩,
  ⟨[wBind, tIp], false, false⟩,
  ⟨[wBind, tIp, wHost], true, true⟩,
  ⟨[wBind, tIp, wHost, tName], false, false⟩,
  ⟨[wBind, tIp, wMac], true, true⟩,
  ⟨[wBind, tIp, wMac, tMac], false, false⟩,
  ⟨[wBind, tIp, wVni], true, true⟩,
  ⟨[wBind, tIp, wVni, tVni], false, false⟩,
  ⟨[wRoutes], false, false⟩,
  ⟨[wRoutes, tPrefix], false, false⟩,
  ⟨[wRoutes, tPrefix, wVia], true, true⟩,
  ⟨[wRoutes, tPrefix, wVia, tName], false, false⟩,
  ⟨[wRoutes, tPrefix, wMetric], true, false⟩,
  ⟨[wRoutes, tPrefix, wMetric, tMetric], false, false⟩,
  ⟨[wPolicy], false, false⟩,
  ⟨[wPolicy, tNum], false, false⟩,
  ⟨[wPolicy, tNum, wAction], true, true⟩,
  ⟨[wPolicy, tNum, wAction, tAction], false, false⟩,
  ⟨[wPolicy, tNum, wFrom], true, false⟩,
  ⟨[wPolicy, tNum, wFrom, tPrefix], false, false⟩,
  ⟨[wPolicy, tNum, wTo], true, false⟩,
  ⟨[wPolicy, tNum, wTo, tPrefix], false, false⟩]
def isType (p : ByteArray) : Bool := hasPrefix p.data.toList [36]
def fitsB (p w : ByteArray) : Bool := if isType p then typeB p w else decide (p = w)
def matchB : List ByteArray → List ByteArray → Bool
  | [], [] => true
  | p :: ps, w :: ws => fitsB p w && matchB ps ws
  | [], _ :: _ => false
  | _ :: _, [] => false
/-- The statement of a path. -/
def ruleOf (p : List ByteArray) : Option Rule := rulesB.find? fun r => matchB r.path p
def needB (p : List ByteArray) (r : Rule) : Bool := r.needed && matchB (r.path.take (r.path.length - 1)) p
def lastW (r : Rule) : ByteArray := r.path.getD (r.path.length - 1) ⟨#[]⟩
def needsOf (p : List ByteArray) : List ByteArray := (rulesB.filter (needB p)).map lastW
def formB (p : List ByteArray) (r : Rule) : Bool := decide (r.path.length = p.length) && matchB (r.path.take (p.length - 1)) (p.take (p.length - 1)) && isType (r.path.getD (p.length - 1) ⟨#[]⟩)
def unknownOf (p : List ByteArray) : Int := if rulesB.any (formB p) then 2 else 3

/-! The document's words. -/
def secondB (a : ByteArray) : ByteArray :=
  if a = wHosts then tName else if a = wVnis then tVni else if a = wBind then tIp else if a = wRoutes then tPrefix else if a = wPolicy then tNum else ⟨#[]⟩
def thirdB (a c : ByteArray) : ByteArray × Bool × Bool :=
  if a = wHosts ∧ c = wIp then (tIp, true, true)
  else if a = wHosts ∧ c = wMac then (tMac, true, false)
  else if a = wHosts ∧ c = wVnis then (tVni, false, false)
  else if a = wVnis ∧ c = wSubnet then (tPrefix, true, true)
  else if a = wBind ∧ c = wHost ∨ a = wRoutes ∧ c = wVia then (tName, true, true)
  else if a = wBind ∧ c = wMac then (tMac, true, true)
  else if a = wBind ∧ c = wVni then (tVni, true, true)
  else if a = wRoutes ∧ c = wMetric then (tMetric, true, false)
  else if a = wPolicy ∧ c = wAction then (tAction, true, true)
  else if a = wPolicy ∧ c = wFrom ∨ a = wPolicy ∧ c = wTo then (tPrefix, true, false)
  else (⟨#[]⟩, false, false)
def needs2 (a : ByteArray) : List ByteArray :=
  if a = wHosts then [wIp] else if a = wVnis then [wSubnet] else if a = wBind then [wHost, wMac, wVni] else if a = wRoutes then [wVia] else if a = wPolicy then [wAction] else []
def knownB : List ByteArray → Int
  | [] => 0
  | [a] => if secondB a = ⟨#[]⟩ then 3 else 0
  | [a, b] => if typeB (secondB a) b then 0 else 2
  | [a, _, c] => if (thirdB a c).1 = ⟨#[]⟩ then 3 else 0
  | [a, _, c, d] => if typeB (thirdB a c).1 d then 0 else 2
  | _ => 3

/-! The statements, by the document's words. -/
theorem fits_w {p : ByteArray} (h : isType p = false) (w : ByteArray) : fitsB p w = decide (w = p) := by unfold fitsB; rw [h]; simp [eq_comm]
theorem fits_t {p : ByteArray} (h : isType p = true) (w : ByteArray) : fitsB p w = typeB p w := by unfold fitsB; rw [h]; rfl

theorem fits_wHosts (w : ByteArray) : fitsB wHosts w = decide (w = wHosts) := fits_w (by decide +kernel) w
theorem ty_wHosts : isType wHosts = false := by decide +kernel
theorem fits_wIp (w : ByteArray) : fitsB wIp w = decide (w = wIp) := fits_w (by decide +kernel) w
theorem ty_wIp : isType wIp = false := by decide +kernel
theorem fits_wMac (w : ByteArray) : fitsB wMac w = decide (w = wMac) := fits_w (by decide +kernel) w
theorem ty_wMac : isType wMac = false := by decide +kernel
theorem fits_wVnis (w : ByteArray) : fitsB wVnis w = decide (w = wVnis) := fits_w (by decide +kernel) w
theorem ty_wVnis : isType wVnis = false := by decide +kernel
theorem fits_wSubnet (w : ByteArray) : fitsB wSubnet w = decide (w = wSubnet) := fits_w (by decide +kernel) w
theorem ty_wSubnet : isType wSubnet = false := by decide +kernel
theorem fits_wBind (w : ByteArray) : fitsB wBind w = decide (w = wBind) := fits_w (by decide +kernel) w
theorem ty_wBind : isType wBind = false := by decide +kernel
theorem fits_wHost (w : ByteArray) : fitsB wHost w = decide (w = wHost) := fits_w (by decide +kernel) w
theorem ty_wHost : isType wHost = false := by decide +kernel
theorem fits_wVni (w : ByteArray) : fitsB wVni w = decide (w = wVni) := fits_w (by decide +kernel) w
theorem ty_wVni : isType wVni = false := by decide +kernel
theorem fits_wRoutes (w : ByteArray) : fitsB wRoutes w = decide (w = wRoutes) := fits_w (by decide +kernel) w
theorem ty_wRoutes : isType wRoutes = false := by decide +kernel
theorem fits_wVia (w : ByteArray) : fitsB wVia w = decide (w = wVia) := fits_w (by decide +kernel) w
theorem ty_wVia : isType wVia = false := by decide +kernel
theorem fits_wMetric (w : ByteArray) : fitsB wMetric w = decide (w = wMetric) := fits_w (by decide +kernel) w
theorem ty_wMetric : isType wMetric = false := by decide +kernel
theorem fits_wPolicy (w : ByteArray) : fitsB wPolicy w = decide (w = wPolicy) := fits_w (by decide +kernel) w
theorem ty_wPolicy : isType wPolicy = false := by decide +kernel
theorem fits_wAction (w : ByteArray) : fitsB wAction w = decide (w = wAction) := fits_w (by decide +kernel) w
theorem ty_wAction : isType wAction = false := by decide +kernel
theorem fits_wFrom (w : ByteArray) : fitsB wFrom w = decide (w = wFrom) := fits_w (by decide +kernel) w
theorem ty_wFrom : isType wFrom = false := by decide +kernel
theorem fits_wTo (w : ByteArray) : fitsB wTo w = decide (w = wTo) := fits_w (by decide +kernel) w
theorem ty_wTo : isType wTo = false := by decide +kernel
theorem fits_wPermit (w : ByteArray) : fitsB wPermit w = decide (w = wPermit) := fits_w (by decide +kernel) w
theorem ty_wPermit : isType wPermit = false := by decide +kernel
theorem fits_wDeny (w : ByteArray) : fitsB wDeny w = decide (w = wDeny) := fits_w (by decide +kernel) w
theorem ty_wDeny : isType wDeny = false := by decide +kernel
theorem fits_tName (w : ByteArray) : fitsB tName w = typeB tName w := fits_t (by decide +kernel) w
theorem ty_tName : isType tName = true := by decide +kernel
theorem fits_tIp (w : ByteArray) : fitsB tIp w = typeB tIp w := fits_t (by decide +kernel) w
theorem ty_tIp : isType tIp = true := by decide +kernel
theorem fits_tPrefix (w : ByteArray) : fitsB tPrefix w = typeB tPrefix w := fits_t (by decide +kernel) w
theorem ty_tPrefix : isType tPrefix = true := by decide +kernel
theorem fits_tMac (w : ByteArray) : fitsB tMac w = typeB tMac w := fits_t (by decide +kernel) w
theorem ty_tMac : isType tMac = true := by decide +kernel
theorem fits_tVni (w : ByteArray) : fitsB tVni w = typeB tVni w := fits_t (by decide +kernel) w
theorem ty_tVni : isType tVni = true := by decide +kernel
theorem fits_tNum (w : ByteArray) : fitsB tNum w = typeB tNum w := fits_t (by decide +kernel) w
theorem ty_tNum : isType tNum = true := by decide +kernel
theorem fits_tMetric (w : ByteArray) : fitsB tMetric w = typeB tMetric w := fits_t (by decide +kernel) w
theorem ty_tMetric : isType tMetric = true := by decide +kernel
theorem fits_tAction (w : ByteArray) : fitsB tAction w = typeB tAction w := fits_t (by decide +kernel) w
theorem ty_tAction : isType tAction = true := by decide +kernel
theorem ne_wHosts_wVnis : (wHosts = wVnis) = False := by simp only [eq_iff_iff, iff_false]; decide +kernel
theorem ne_wHosts_wBind : (wHosts = wBind) = False := by simp only [eq_iff_iff, iff_false]; decide +kernel
theorem ne_wHosts_wRoutes : (wHosts = wRoutes) = False := by simp only [eq_iff_iff, iff_false]; decide +kernel
theorem ne_wHosts_wPolicy : (wHosts = wPolicy) = False := by simp only [eq_iff_iff, iff_false]; decide +kernel
theorem ne_wHosts_wIp : (wHosts = wIp) = False := by simp only [eq_iff_iff, iff_false]; decide +kernel
theorem ne_wHosts_wMac : (wHosts = wMac) = False := by simp only [eq_iff_iff, iff_false]; decide +kernel
theorem ne_wHosts_wSubnet : (wHosts = wSubnet) = False := by simp only [eq_iff_iff, iff_false]; decide +kernel
theorem ne_wHosts_wHost : (wHosts = wHost) = False := by simp only [eq_iff_iff, iff_false]; decide +kernel
theorem ne_wHosts_wVni : (wHosts = wVni) = False := by simp only [eq_iff_iff, iff_false]; decide +kernel
theorem ne_wHosts_wVia : (wHosts = wVia) = False := by simp only [eq_iff_iff, iff_false]; decide +kernel
theorem ne_wHosts_wMetric : (wHosts = wMetric) = False := by simp only [eq_iff_iff, iff_false]; decide +kernel
theorem ne_wHosts_wAction : (wHosts = wAction) = False := by simp only [eq_iff_iff, iff_false]; decide +kernel
theorem ne_wHosts_wFrom : (wHosts = wFrom) = False := by simp only [eq_iff_iff, iff_false]; decide +kernel
theorem ne_wHosts_wTo : (wHosts = wTo) = False := by simp only [eq_iff_iff, iff_false]; decide +kernel
theorem ne_wVnis_wHosts : (wVnis = wHosts) = False := by simp only [eq_iff_iff, iff_false]; decide +kernel
theorem ne_wVnis_wBind : (wVnis = wBind) = False := by simp only [eq_iff_iff, iff_false]; decide +kernel
theorem ne_wVnis_wRoutes : (wVnis = wRoutes) = False := by simp only [eq_iff_iff, iff_false]; decide +kernel
theorem ne_wVnis_wPolicy : (wVnis = wPolicy) = False := by simp only [eq_iff_iff, iff_false]; decide +kernel
theorem ne_wVnis_wIp : (wVnis = wIp) = False := by simp only [eq_iff_iff, iff_false]; decide +kernel
theorem ne_wVnis_wMac : (wVnis = wMac) = False := by simp only [eq_iff_iff, iff_false]; decide +kernel
theorem ne_wVnis_wSubnet : (wVnis = wSubnet) = False := by simp only [eq_iff_iff, iff_false]; decide +kernel
theorem ne_wVnis_wHost : (wVnis = wHost) = False := by simp only [eq_iff_iff, iff_false]; decide +kernel
theorem ne_wVnis_wVni : (wVnis = wVni) = False := by simp only [eq_iff_iff, iff_false]; decide +kernel
theorem ne_wVnis_wVia : (wVnis = wVia) = False := by simp only [eq_iff_iff, iff_false]; decide +kernel
theorem ne_wVnis_wMetric : (wVnis = wMetric) = False := by simp only [eq_iff_iff, iff_false]; decide +kernel
theorem ne_wVnis_wAction : (wVnis = wAction) = False := by simp only [eq_iff_iff, iff_false]; decide +kernel
theorem ne_wVnis_wFrom : (wVnis = wFrom) = False := by simp only [eq_iff_iff, iff_false]; decide +kernel
theorem ne_wVnis_wTo : (wVnis = wTo) = False := by simp only [eq_iff_iff, iff_false]; decide +kernel
theorem ne_wBind_wHosts : (wBind = wHosts) = False := by simp only [eq_iff_iff, iff_false]; decide +kernel
theorem ne_wBind_wVnis : (wBind = wVnis) = False := by simp only [eq_iff_iff, iff_false]; decide +kernel
theorem ne_wBind_wRoutes : (wBind = wRoutes) = False := by simp only [eq_iff_iff, iff_false]; decide +kernel
theorem ne_wBind_wPolicy : (wBind = wPolicy) = False := by simp only [eq_iff_iff, iff_false]; decide +kernel
theorem ne_wBind_wIp : (wBind = wIp) = False := by simp only [eq_iff_iff, iff_false]; decide +kernel
theorem ne_wBind_wMac : (wBind = wMac) = False := by simp only [eq_iff_iff, iff_false]; decide +kernel
theorem ne_wBind_wSubnet : (wBind = wSubnet) = False := by simp only [eq_iff_iff, iff_false]; decide +kernel
theorem ne_wBind_wHost : (wBind = wHost) = False := by simp only [eq_iff_iff, iff_false]; decide +kernel
theorem ne_wBind_wVni : (wBind = wVni) = False := by simp only [eq_iff_iff, iff_false]; decide +kernel
theorem ne_wBind_wVia : (wBind = wVia) = False := by simp only [eq_iff_iff, iff_false]; decide +kernel
theorem ne_wBind_wMetric : (wBind = wMetric) = False := by simp only [eq_iff_iff, iff_false]; decide +kernel
theorem ne_wBind_wAction : (wBind = wAction) = False := by simp only [eq_iff_iff, iff_false]; decide +kernel
theorem ne_wBind_wFrom : (wBind = wFrom) = False := by simp only [eq_iff_iff, iff_false]; decide +kernel
theorem ne_wBind_wTo : (wBind = wTo) = False := by simp only [eq_iff_iff, iff_false]; decide +kernel
theorem ne_wRoutes_wHosts : (wRoutes = wHosts) = False := by simp only [eq_iff_iff, iff_false]; decide +kernel
theorem ne_wRoutes_wVnis : (wRoutes = wVnis) = False := by simp only [eq_iff_iff, iff_false]; decide +kernel
theorem ne_wRoutes_wBind : (wRoutes = wBind) = False := by simp only [eq_iff_iff, iff_false]; decide +kernel
theorem ne_wRoutes_wPolicy : (wRoutes = wPolicy) = False := by simp only [eq_iff_iff, iff_false]; decide +kernel
theorem ne_wRoutes_wIp : (wRoutes = wIp) = False := by simp only [eq_iff_iff, iff_false]; decide +kernel
theorem ne_wRoutes_wMac : (wRoutes = wMac) = False := by simp only [eq_iff_iff, iff_false]; decide +kernel
theorem ne_wRoutes_wSubnet : (wRoutes = wSubnet) = False := by simp only [eq_iff_iff, iff_false]; decide +kernel
theorem ne_wRoutes_wHost : (wRoutes = wHost) = False := by simp only [eq_iff_iff, iff_false]; decide +kernel
theorem ne_wRoutes_wVni : (wRoutes = wVni) = False := by simp only [eq_iff_iff, iff_false]; decide +kernel
theorem ne_wRoutes_wVia : (wRoutes = wVia) = False := by simp only [eq_iff_iff, iff_false]; decide +kernel
theorem ne_wRoutes_wMetric : (wRoutes = wMetric) = False := by simp only [eq_iff_iff, iff_false]; decide +kernel
theorem ne_wRoutes_wAction : (wRoutes = wAction) = False := by simp only [eq_iff_iff, iff_false]; decide +kernel
theorem ne_wRoutes_wFrom : (wRoutes = wFrom) = False := by simp only [eq_iff_iff, iff_false]; decide +kernel
theorem ne_wRoutes_wTo : (wRoutes = wTo) = False := by simp only [eq_iff_iff, iff_false]; decide +kernel
theorem ne_wPolicy_wHosts : (wPolicy = wHosts) = False := by simp only [eq_iff_iff, iff_false]; decide +kernel
theorem ne_wPolicy_wVnis : (wPolicy = wVnis) = False := by simp only [eq_iff_iff, iff_false]; decide +kernel
theorem ne_wPolicy_wBind : (wPolicy = wBind) = False := by simp only [eq_iff_iff, iff_false]; decide +kernel
theorem ne_wPolicy_wRoutes : (wPolicy = wRoutes) = False := by simp only [eq_iff_iff, iff_false]; decide +kernel
theorem ne_wPolicy_wIp : (wPolicy = wIp) = False := by simp only [eq_iff_iff, iff_false]; decide +kernel
theorem ne_wPolicy_wMac : (wPolicy = wMac) = False := by simp only [eq_iff_iff, iff_false]; decide +kernel
theorem ne_wPolicy_wSubnet : (wPolicy = wSubnet) = False := by simp only [eq_iff_iff, iff_false]; decide +kernel
theorem ne_wPolicy_wHost : (wPolicy = wHost) = False := by simp only [eq_iff_iff, iff_false]; decide +kernel
theorem ne_wPolicy_wVni : (wPolicy = wVni) = False := by simp only [eq_iff_iff, iff_false]; decide +kernel
theorem ne_wPolicy_wVia : (wPolicy = wVia) = False := by simp only [eq_iff_iff, iff_false]; decide +kernel
theorem ne_wPolicy_wMetric : (wPolicy = wMetric) = False := by simp only [eq_iff_iff, iff_false]; decide +kernel
theorem ne_wPolicy_wAction : (wPolicy = wAction) = False := by simp only [eq_iff_iff, iff_false]; decide +kernel
theorem ne_wPolicy_wFrom : (wPolicy = wFrom) = False := by simp only [eq_iff_iff, iff_false]; decide +kernel
theorem ne_wPolicy_wTo : (wPolicy = wTo) = False := by simp only [eq_iff_iff, iff_false]; decide +kernel
theorem ne_wIp_wHosts : (wIp = wHosts) = False := by simp only [eq_iff_iff, iff_false]; decide +kernel
theorem ne_wIp_wVnis : (wIp = wVnis) = False := by simp only [eq_iff_iff, iff_false]; decide +kernel
theorem ne_wIp_wBind : (wIp = wBind) = False := by simp only [eq_iff_iff, iff_false]; decide +kernel
theorem ne_wIp_wRoutes : (wIp = wRoutes) = False := by simp only [eq_iff_iff, iff_false]; decide +kernel
theorem ne_wIp_wPolicy : (wIp = wPolicy) = False := by simp only [eq_iff_iff, iff_false]; decide +kernel
theorem ne_wIp_wMac : (wIp = wMac) = False := by simp only [eq_iff_iff, iff_false]; decide +kernel
theorem ne_wIp_wSubnet : (wIp = wSubnet) = False := by simp only [eq_iff_iff, iff_false]; decide +kernel
theorem ne_wIp_wHost : (wIp = wHost) = False := by simp only [eq_iff_iff, iff_false]; decide +kernel
theorem ne_wIp_wVni : (wIp = wVni) = False := by simp only [eq_iff_iff, iff_false]; decide +kernel
theorem ne_wIp_wVia : (wIp = wVia) = False := by simp only [eq_iff_iff, iff_false]; decide +kernel
theorem ne_wIp_wMetric : (wIp = wMetric) = False := by simp only [eq_iff_iff, iff_false]; decide +kernel
theorem ne_wIp_wAction : (wIp = wAction) = False := by simp only [eq_iff_iff, iff_false]; decide +kernel
theorem ne_wIp_wFrom : (wIp = wFrom) = False := by simp only [eq_iff_iff, iff_false]; decide +kernel
theorem ne_wIp_wTo : (wIp = wTo) = False := by simp only [eq_iff_iff, iff_false]; decide +kernel
theorem ne_wMac_wHosts : (wMac = wHosts) = False := by simp only [eq_iff_iff, iff_false]; decide +kernel
theorem ne_wMac_wVnis : (wMac = wVnis) = False := by simp only [eq_iff_iff, iff_false]; decide +kernel
theorem ne_wMac_wBind : (wMac = wBind) = False := by simp only [eq_iff_iff, iff_false]; decide +kernel
theorem ne_wMac_wRoutes : (wMac = wRoutes) = False := by simp only [eq_iff_iff, iff_false]; decide +kernel
theorem ne_wMac_wPolicy : (wMac = wPolicy) = False := by simp only [eq_iff_iff, iff_false]; decide +kernel
theorem ne_wMac_wIp : (wMac = wIp) = False := by simp only [eq_iff_iff, iff_false]; decide +kernel
theorem ne_wMac_wSubnet : (wMac = wSubnet) = False := by simp only [eq_iff_iff, iff_false]; decide +kernel
theorem ne_wMac_wHost : (wMac = wHost) = False := by simp only [eq_iff_iff, iff_false]; decide +kernel
theorem ne_wMac_wVni : (wMac = wVni) = False := by simp only [eq_iff_iff, iff_false]; decide +kernel
theorem ne_wMac_wVia : (wMac = wVia) = False := by simp only [eq_iff_iff, iff_false]; decide +kernel
theorem ne_wMac_wMetric : (wMac = wMetric) = False := by simp only [eq_iff_iff, iff_false]; decide +kernel
theorem ne_wMac_wAction : (wMac = wAction) = False := by simp only [eq_iff_iff, iff_false]; decide +kernel
theorem ne_wMac_wFrom : (wMac = wFrom) = False := by simp only [eq_iff_iff, iff_false]; decide +kernel
theorem ne_wMac_wTo : (wMac = wTo) = False := by simp only [eq_iff_iff, iff_false]; decide +kernel
theorem ne_wSubnet_wHosts : (wSubnet = wHosts) = False := by simp only [eq_iff_iff, iff_false]; decide +kernel
theorem ne_wSubnet_wVnis : (wSubnet = wVnis) = False := by simp only [eq_iff_iff, iff_false]; decide +kernel
theorem ne_wSubnet_wBind : (wSubnet = wBind) = False := by simp only [eq_iff_iff, iff_false]; decide +kernel
theorem ne_wSubnet_wRoutes : (wSubnet = wRoutes) = False := by simp only [eq_iff_iff, iff_false]; decide +kernel
theorem ne_wSubnet_wPolicy : (wSubnet = wPolicy) = False := by simp only [eq_iff_iff, iff_false]; decide +kernel
theorem ne_wSubnet_wIp : (wSubnet = wIp) = False := by simp only [eq_iff_iff, iff_false]; decide +kernel
theorem ne_wSubnet_wMac : (wSubnet = wMac) = False := by simp only [eq_iff_iff, iff_false]; decide +kernel
theorem ne_wSubnet_wHost : (wSubnet = wHost) = False := by simp only [eq_iff_iff, iff_false]; decide +kernel
theorem ne_wSubnet_wVni : (wSubnet = wVni) = False := by simp only [eq_iff_iff, iff_false]; decide +kernel
theorem ne_wSubnet_wVia : (wSubnet = wVia) = False := by simp only [eq_iff_iff, iff_false]; decide +kernel
theorem ne_wSubnet_wMetric : (wSubnet = wMetric) = False := by simp only [eq_iff_iff, iff_false]; decide +kernel
theorem ne_wSubnet_wAction : (wSubnet = wAction) = False := by simp only [eq_iff_iff, iff_false]; decide +kernel
theorem ne_wSubnet_wFrom : (wSubnet = wFrom) = False := by simp only [eq_iff_iff, iff_false]; decide +kernel
theorem ne_wSubnet_wTo : (wSubnet = wTo) = False := by simp only [eq_iff_iff, iff_false]; decide +kernel
theorem ne_wHost_wHosts : (wHost = wHosts) = False := by simp only [eq_iff_iff, iff_false]; decide +kernel
theorem ne_wHost_wVnis : (wHost = wVnis) = False := by simp only [eq_iff_iff, iff_false]; decide +kernel
theorem ne_wHost_wBind : (wHost = wBind) = False := by simp only [eq_iff_iff, iff_false]; decide +kernel
theorem ne_wHost_wRoutes : (wHost = wRoutes) = False := by simp only [eq_iff_iff, iff_false]; decide +kernel
theorem ne_wHost_wPolicy : (wHost = wPolicy) = False := by simp only [eq_iff_iff, iff_false]; decide +kernel
theorem ne_wHost_wIp : (wHost = wIp) = False := by simp only [eq_iff_iff, iff_false]; decide +kernel
theorem ne_wHost_wMac : (wHost = wMac) = False := by simp only [eq_iff_iff, iff_false]; decide +kernel
theorem ne_wHost_wSubnet : (wHost = wSubnet) = False := by simp only [eq_iff_iff, iff_false]; decide +kernel
theorem ne_wHost_wVni : (wHost = wVni) = False := by simp only [eq_iff_iff, iff_false]; decide +kernel
theorem ne_wHost_wVia : (wHost = wVia) = False := by simp only [eq_iff_iff, iff_false]; decide +kernel
theorem ne_wHost_wMetric : (wHost = wMetric) = False := by simp only [eq_iff_iff, iff_false]; decide +kernel
theorem ne_wHost_wAction : (wHost = wAction) = False := by simp only [eq_iff_iff, iff_false]; decide +kernel
theorem ne_wHost_wFrom : (wHost = wFrom) = False := by simp only [eq_iff_iff, iff_false]; decide +kernel
theorem ne_wHost_wTo : (wHost = wTo) = False := by simp only [eq_iff_iff, iff_false]; decide +kernel
theorem ne_wVni_wHosts : (wVni = wHosts) = False := by simp only [eq_iff_iff, iff_false]; decide +kernel
theorem ne_wVni_wVnis : (wVni = wVnis) = False := by simp only [eq_iff_iff, iff_false]; decide +kernel
theorem ne_wVni_wBind : (wVni = wBind) = False := by simp only [eq_iff_iff, iff_false]; decide +kernel
theorem ne_wVni_wRoutes : (wVni = wRoutes) = False := by simp only [eq_iff_iff, iff_false]; decide +kernel
theorem ne_wVni_wPolicy : (wVni = wPolicy) = False := by simp only [eq_iff_iff, iff_false]; decide +kernel
theorem ne_wVni_wIp : (wVni = wIp) = False := by simp only [eq_iff_iff, iff_false]; decide +kernel
theorem ne_wVni_wMac : (wVni = wMac) = False := by simp only [eq_iff_iff, iff_false]; decide +kernel
theorem ne_wVni_wSubnet : (wVni = wSubnet) = False := by simp only [eq_iff_iff, iff_false]; decide +kernel
theorem ne_wVni_wHost : (wVni = wHost) = False := by simp only [eq_iff_iff, iff_false]; decide +kernel
theorem ne_wVni_wVia : (wVni = wVia) = False := by simp only [eq_iff_iff, iff_false]; decide +kernel
theorem ne_wVni_wMetric : (wVni = wMetric) = False := by simp only [eq_iff_iff, iff_false]; decide +kernel
theorem ne_wVni_wAction : (wVni = wAction) = False := by simp only [eq_iff_iff, iff_false]; decide +kernel
theorem ne_wVni_wFrom : (wVni = wFrom) = False := by simp only [eq_iff_iff, iff_false]; decide +kernel
theorem ne_wVni_wTo : (wVni = wTo) = False := by simp only [eq_iff_iff, iff_false]; decide +kernel
theorem ne_wVia_wHosts : (wVia = wHosts) = False := by simp only [eq_iff_iff, iff_false]; decide +kernel
theorem ne_wVia_wVnis : (wVia = wVnis) = False := by simp only [eq_iff_iff, iff_false]; decide +kernel
theorem ne_wVia_wBind : (wVia = wBind) = False := by simp only [eq_iff_iff, iff_false]; decide +kernel
theorem ne_wVia_wRoutes : (wVia = wRoutes) = False := by simp only [eq_iff_iff, iff_false]; decide +kernel
theorem ne_wVia_wPolicy : (wVia = wPolicy) = False := by simp only [eq_iff_iff, iff_false]; decide +kernel
theorem ne_wVia_wIp : (wVia = wIp) = False := by simp only [eq_iff_iff, iff_false]; decide +kernel
theorem ne_wVia_wMac : (wVia = wMac) = False := by simp only [eq_iff_iff, iff_false]; decide +kernel
theorem ne_wVia_wSubnet : (wVia = wSubnet) = False := by simp only [eq_iff_iff, iff_false]; decide +kernel
theorem ne_wVia_wHost : (wVia = wHost) = False := by simp only [eq_iff_iff, iff_false]; decide +kernel
theorem ne_wVia_wVni : (wVia = wVni) = False := by simp only [eq_iff_iff, iff_false]; decide +kernel
theorem ne_wVia_wMetric : (wVia = wMetric) = False := by simp only [eq_iff_iff, iff_false]; decide +kernel
theorem ne_wVia_wAction : (wVia = wAction) = False := by simp only [eq_iff_iff, iff_false]; decide +kernel
theorem ne_wVia_wFrom : (wVia = wFrom) = False := by simp only [eq_iff_iff, iff_false]; decide +kernel
theorem ne_wVia_wTo : (wVia = wTo) = False := by simp only [eq_iff_iff, iff_false]; decide +kernel
theorem ne_wMetric_wHosts : (wMetric = wHosts) = False := by simp only [eq_iff_iff, iff_false]; decide +kernel
theorem ne_wMetric_wVnis : (wMetric = wVnis) = False := by simp only [eq_iff_iff, iff_false]; decide +kernel
theorem ne_wMetric_wBind : (wMetric = wBind) = False := by simp only [eq_iff_iff, iff_false]; decide +kernel
theorem ne_wMetric_wRoutes : (wMetric = wRoutes) = False := by simp only [eq_iff_iff, iff_false]; decide +kernel
theorem ne_wMetric_wPolicy : (wMetric = wPolicy) = False := by simp only [eq_iff_iff, iff_false]; decide +kernel
theorem ne_wMetric_wIp : (wMetric = wIp) = False := by simp only [eq_iff_iff, iff_false]; decide +kernel
theorem ne_wMetric_wMac : (wMetric = wMac) = False := by simp only [eq_iff_iff, iff_false]; decide +kernel
theorem ne_wMetric_wSubnet : (wMetric = wSubnet) = False := by simp only [eq_iff_iff, iff_false]; decide +kernel
theorem ne_wMetric_wHost : (wMetric = wHost) = False := by simp only [eq_iff_iff, iff_false]; decide +kernel
theorem ne_wMetric_wVni : (wMetric = wVni) = False := by simp only [eq_iff_iff, iff_false]; decide +kernel
theorem ne_wMetric_wVia : (wMetric = wVia) = False := by simp only [eq_iff_iff, iff_false]; decide +kernel
theorem ne_wMetric_wAction : (wMetric = wAction) = False := by simp only [eq_iff_iff, iff_false]; decide +kernel
theorem ne_wMetric_wFrom : (wMetric = wFrom) = False := by simp only [eq_iff_iff, iff_false]; decide +kernel
theorem ne_wMetric_wTo : (wMetric = wTo) = False := by simp only [eq_iff_iff, iff_false]; decide +kernel
theorem ne_wAction_wHosts : (wAction = wHosts) = False := by simp only [eq_iff_iff, iff_false]; decide +kernel
theorem ne_wAction_wVnis : (wAction = wVnis) = False := by simp only [eq_iff_iff, iff_false]; decide +kernel
theorem ne_wAction_wBind : (wAction = wBind) = False := by simp only [eq_iff_iff, iff_false]; decide +kernel
theorem ne_wAction_wRoutes : (wAction = wRoutes) = False := by simp only [eq_iff_iff, iff_false]; decide +kernel
theorem ne_wAction_wPolicy : (wAction = wPolicy) = False := by simp only [eq_iff_iff, iff_false]; decide +kernel
theorem ne_wAction_wIp : (wAction = wIp) = False := by simp only [eq_iff_iff, iff_false]; decide +kernel
theorem ne_wAction_wMac : (wAction = wMac) = False := by simp only [eq_iff_iff, iff_false]; decide +kernel
theorem ne_wAction_wSubnet : (wAction = wSubnet) = False := by simp only [eq_iff_iff, iff_false]; decide +kernel
theorem ne_wAction_wHost : (wAction = wHost) = False := by simp only [eq_iff_iff, iff_false]; decide +kernel
theorem ne_wAction_wVni : (wAction = wVni) = False := by simp only [eq_iff_iff, iff_false]; decide +kernel
theorem ne_wAction_wVia : (wAction = wVia) = False := by simp only [eq_iff_iff, iff_false]; decide +kernel
theorem ne_wAction_wMetric : (wAction = wMetric) = False := by simp only [eq_iff_iff, iff_false]; decide +kernel
theorem ne_wAction_wFrom : (wAction = wFrom) = False := by simp only [eq_iff_iff, iff_false]; decide +kernel
theorem ne_wAction_wTo : (wAction = wTo) = False := by simp only [eq_iff_iff, iff_false]; decide +kernel
theorem ne_wFrom_wHosts : (wFrom = wHosts) = False := by simp only [eq_iff_iff, iff_false]; decide +kernel
theorem ne_wFrom_wVnis : (wFrom = wVnis) = False := by simp only [eq_iff_iff, iff_false]; decide +kernel
theorem ne_wFrom_wBind : (wFrom = wBind) = False := by simp only [eq_iff_iff, iff_false]; decide +kernel
theorem ne_wFrom_wRoutes : (wFrom = wRoutes) = False := by simp only [eq_iff_iff, iff_false]; decide +kernel
theorem ne_wFrom_wPolicy : (wFrom = wPolicy) = False := by simp only [eq_iff_iff, iff_false]; decide +kernel
theorem ne_wFrom_wIp : (wFrom = wIp) = False := by simp only [eq_iff_iff, iff_false]; decide +kernel
theorem ne_wFrom_wMac : (wFrom = wMac) = False := by simp only [eq_iff_iff, iff_false]; decide +kernel
theorem ne_wFrom_wSubnet : (wFrom = wSubnet) = False := by simp only [eq_iff_iff, iff_false]; decide +kernel
theorem ne_wFrom_wHost : (wFrom = wHost) = False := by simp only [eq_iff_iff, iff_false]; decide +kernel
theorem ne_wFrom_wVni : (wFrom = wVni) = False := by simp only [eq_iff_iff, iff_false]; decide +kernel
theorem ne_wFrom_wVia : (wFrom = wVia) = False := by simp only [eq_iff_iff, iff_false]; decide +kernel
theorem ne_wFrom_wMetric : (wFrom = wMetric) = False := by simp only [eq_iff_iff, iff_false]; decide +kernel
theorem ne_wFrom_wAction : (wFrom = wAction) = False := by simp only [eq_iff_iff, iff_false]; decide +kernel
theorem ne_wFrom_wTo : (wFrom = wTo) = False := by simp only [eq_iff_iff, iff_false]; decide +kernel
theorem ne_wTo_wHosts : (wTo = wHosts) = False := by simp only [eq_iff_iff, iff_false]; decide +kernel
theorem ne_wTo_wVnis : (wTo = wVnis) = False := by simp only [eq_iff_iff, iff_false]; decide +kernel
theorem ne_wTo_wBind : (wTo = wBind) = False := by simp only [eq_iff_iff, iff_false]; decide +kernel
theorem ne_wTo_wRoutes : (wTo = wRoutes) = False := by simp only [eq_iff_iff, iff_false]; decide +kernel
theorem ne_wTo_wPolicy : (wTo = wPolicy) = False := by simp only [eq_iff_iff, iff_false]; decide +kernel
theorem ne_wTo_wIp : (wTo = wIp) = False := by simp only [eq_iff_iff, iff_false]; decide +kernel
theorem ne_wTo_wMac : (wTo = wMac) = False := by simp only [eq_iff_iff, iff_false]; decide +kernel
theorem ne_wTo_wSubnet : (wTo = wSubnet) = False := by simp only [eq_iff_iff, iff_false]; decide +kernel
theorem ne_wTo_wHost : (wTo = wHost) = False := by simp only [eq_iff_iff, iff_false]; decide +kernel
theorem ne_wTo_wVni : (wTo = wVni) = False := by simp only [eq_iff_iff, iff_false]; decide +kernel
theorem ne_wTo_wVia : (wTo = wVia) = False := by simp only [eq_iff_iff, iff_false]; decide +kernel
theorem ne_wTo_wMetric : (wTo = wMetric) = False := by simp only [eq_iff_iff, iff_false]; decide +kernel
theorem ne_wTo_wAction : (wTo = wAction) = False := by simp only [eq_iff_iff, iff_false]; decide +kernel
theorem ne_wTo_wFrom : (wTo = wFrom) = False := by simp only [eq_iff_iff, iff_false]; decide +kernel
theorem em_tName : (tName = ⟨#[]⟩) = False := by simp only [eq_iff_iff, iff_false]; decide +kernel
theorem em_tIp : (tIp = ⟨#[]⟩) = False := by simp only [eq_iff_iff, iff_false]; decide +kernel
theorem em_tPrefix : (tPrefix = ⟨#[]⟩) = False := by simp only [eq_iff_iff, iff_false]; decide +kernel
theorem em_tMac : (tMac = ⟨#[]⟩) = False := by simp only [eq_iff_iff, iff_false]; decide +kernel
theorem em_tVni : (tVni = ⟨#[]⟩) = False := by simp only [eq_iff_iff, iff_false]; decide +kernel
theorem em_tNum : (tNum = ⟨#[]⟩) = False := by simp only [eq_iff_iff, iff_false]; decide +kernel
theorem em_tMetric : (tMetric = ⟨#[]⟩) = False := by simp only [eq_iff_iff, iff_false]; decide +kernel
theorem em_tAction : (tAction = ⟨#[]⟩) = False := by simp only [eq_iff_iff, iff_false]; decide +kernel
theorem type_none (w : ByteArray) : typeB ⟨#[]⟩ w = false := by
  unfold typeB
  repeat rw [if_neg (by decide +kernel)]
theorem heads (a : ByteArray) : a = wHosts ∨ a = wVnis ∨ a = wBind ∨ a = wRoutes ∨ a = wPolicy ∨ (a ≠ wHosts ∧ a ≠ wVnis ∧ a ≠ wBind ∧ a ≠ wRoutes ∧ a ≠ wPolicy) := by
  by_cases h1 : a = wHosts; · exact .inl h1
  by_cases h2 : a = wVnis; · exact .inr (.inl h2)
  by_cases h3 : a = wBind; · exact .inr (.inr (.inl h3))
  by_cases h4 : a = wRoutes; · exact .inr (.inr (.inr (.inl h4)))
  by_cases h5 : a = wPolicy; · exact .inr (.inr (.inr (.inr (.inl h5))))
  exact .inr (.inr (.inr (.inr (.inr ⟨h1, h2, h3, h4, h5⟩))))
theorem match_nil_cons (w : ByteArray) (ws : List ByteArray) : matchB [] (w :: ws) = false := rfl
theorem match_cons_nil (p : ByteArray) (ps : List ByteArray) : matchB (p :: ps) [] = false := rfl
theorem match_nil : matchB [] [] = true := rfl
theorem match_cons (p w : ByteArray) (ps ws : List ByteArray) : matchB (p :: ps) (w :: ws) = (fitsB p w && matchB ps ws) := rfl
theorem match_len : ∀ {p q : List ByteArray}, matchB p q = true → p.length = q.length
  | [], [], _ => rfl
  | p :: ps, w :: ws, h => by
    rw [match_cons, Bool.and_eq_true] at h
    rw [List.length_cons, List.length_cons, match_len h.2]
  | [], _ :: _, h => by cases h
  | _ :: _, [], h => by cases h
theorem match_short {p q : List ByteArray} (h : p.length ≠ q.length) : matchB p q = false := by
  rw [Bool.eq_false_iff]; exact fun h2 => h (match_len h2)
/-- The statements whose first word is one. -/
def rulesAt (n : Nat) : List Rule := rulesB.filter fun r => r.path.length = n

attribute [local simp] List.find?_cons match_cons match_nil match_nil_cons match_cons_nil fits_wHosts fits_wIp fits_wMac fits_wVnis fits_wSubnet fits_wBind fits_wHost fits_wVni fits_wRoutes fits_wVia fits_wMetric fits_wPolicy fits_wAction fits_wFrom fits_wTo fits_wPermit fits_wDeny fits_tName fits_tIp fits_tPrefix fits_tMac fits_tVni fits_tNum fits_tMetric fits_tAction ne_wHosts_wVnis ne_wHosts_wBind ne_wHosts_wRoutes ne_wHosts_wPolicy ne_wHosts_wIp ne_wHosts_wMac ne_wHosts_wSubnet ne_wHosts_wHost ne_wHosts_wVni ne_wHosts_wVia ne_wHosts_wMetric ne_wHosts_wAction ne_wHosts_wFrom ne_wHosts_wTo ne_wVnis_wHosts ne_wVnis_wBind ne_wVnis_wRoutes ne_wVnis_wPolicy ne_wVnis_wIp ne_wVnis_wMac ne_wVnis_wSubnet ne_wVnis_wHost ne_wVnis_wVni ne_wVnis_wVia ne_wVnis_wMetric ne_wVnis_wAction ne_wVnis_wFrom ne_wVnis_wTo ne_wBind_wHosts ne_wBind_wVnis ne_wBind_wRoutes ne_wBind_wPolicy ne_wBind_wIp ne_wBind_wMac ne_wBind_wSubnet ne_wBind_wHost ne_wBind_wVni ne_wBind_wVia ne_wBind_wMetric ne_wBind_wAction ne_wBind_wFrom ne_wBind_wTo ne_wRoutes_wHosts ne_wRoutes_wVnis ne_wRoutes_wBind ne_wRoutes_wPolicy ne_wRoutes_wIp ne_wRoutes_wMac ne_wRoutes_wSubnet ne_wRoutes_wHost ne_wRoutes_wVni ne_wRoutes_wVia ne_wRoutes_wMetric ne_wRoutes_wAction ne_wRoutes_wFrom ne_wRoutes_wTo ne_wPolicy_wHosts ne_wPolicy_wVnis ne_wPolicy_wBind ne_wPolicy_wRoutes ne_wPolicy_wIp ne_wPolicy_wMac ne_wPolicy_wSubnet ne_wPolicy_wHost ne_wPolicy_wVni ne_wPolicy_wVia ne_wPolicy_wMetric ne_wPolicy_wAction ne_wPolicy_wFrom ne_wPolicy_wTo ne_wIp_wHosts ne_wIp_wVnis ne_wIp_wBind ne_wIp_wRoutes ne_wIp_wPolicy ne_wIp_wMac ne_wIp_wSubnet ne_wIp_wHost ne_wIp_wVni ne_wIp_wVia ne_wIp_wMetric ne_wIp_wAction ne_wIp_wFrom ne_wIp_wTo ne_wMac_wHosts ne_wMac_wVnis ne_wMac_wBind ne_wMac_wRoutes ne_wMac_wPolicy ne_wMac_wIp ne_wMac_wSubnet ne_wMac_wHost ne_wMac_wVni ne_wMac_wVia ne_wMac_wMetric ne_wMac_wAction ne_wMac_wFrom ne_wMac_wTo ne_wSubnet_wHosts ne_wSubnet_wVnis ne_wSubnet_wBind ne_wSubnet_wRoutes ne_wSubnet_wPolicy ne_wSubnet_wIp ne_wSubnet_wMac ne_wSubnet_wHost ne_wSubnet_wVni ne_wSubnet_wVia ne_wSubnet_wMetric ne_wSubnet_wAction ne_wSubnet_wFrom ne_wSubnet_wTo ne_wHost_wHosts ne_wHost_wVnis ne_wHost_wBind ne_wHost_wRoutes ne_wHost_wPolicy ne_wHost_wIp ne_wHost_wMac ne_wHost_wSubnet ne_wHost_wVni ne_wHost_wVia ne_wHost_wMetric ne_wHost_wAction ne_wHost_wFrom ne_wHost_wTo ne_wVni_wHosts ne_wVni_wVnis ne_wVni_wBind ne_wVni_wRoutes ne_wVni_wPolicy ne_wVni_wIp ne_wVni_wMac ne_wVni_wSubnet ne_wVni_wHost ne_wVni_wVia ne_wVni_wMetric ne_wVni_wAction ne_wVni_wFrom ne_wVni_wTo ne_wVia_wHosts ne_wVia_wVnis ne_wVia_wBind ne_wVia_wRoutes ne_wVia_wPolicy ne_wVia_wIp ne_wVia_wMac ne_wVia_wSubnet ne_wVia_wHost ne_wVia_wVni ne_wVia_wMetric ne_wVia_wAction ne_wVia_wFrom ne_wVia_wTo ne_wMetric_wHosts ne_wMetric_wVnis ne_wMetric_wBind ne_wMetric_wRoutes ne_wMetric_wPolicy ne_wMetric_wIp ne_wMetric_wMac ne_wMetric_wSubnet ne_wMetric_wHost ne_wMetric_wVni ne_wMetric_wVia ne_wMetric_wAction ne_wMetric_wFrom ne_wMetric_wTo ne_wAction_wHosts ne_wAction_wVnis ne_wAction_wBind ne_wAction_wRoutes ne_wAction_wPolicy ne_wAction_wIp ne_wAction_wMac ne_wAction_wSubnet ne_wAction_wHost ne_wAction_wVni ne_wAction_wVia ne_wAction_wMetric ne_wAction_wFrom ne_wAction_wTo ne_wFrom_wHosts ne_wFrom_wVnis ne_wFrom_wBind ne_wFrom_wRoutes ne_wFrom_wPolicy ne_wFrom_wIp ne_wFrom_wMac ne_wFrom_wSubnet ne_wFrom_wHost ne_wFrom_wVni ne_wFrom_wVia ne_wFrom_wMetric ne_wFrom_wAction ne_wFrom_wTo ne_wTo_wHosts ne_wTo_wVnis ne_wTo_wBind ne_wTo_wRoutes ne_wTo_wPolicy ne_wTo_wIp ne_wTo_wMac ne_wTo_wSubnet ne_wTo_wHost ne_wTo_wVni ne_wTo_wVia ne_wTo_wMetric ne_wTo_wAction ne_wTo_wFrom em_tName em_tIp em_tPrefix em_tMac em_tVni em_tNum em_tMetric em_tAction
theorem second_hosts : secondB wHosts = tName := by decide +kernel
theorem second_vnis : secondB wVnis = tVni := by decide +kernel
theorem second_bind : secondB wBind = tIp := by decide +kernel
theorem second_routes : secondB wRoutes = tPrefix := by decide +kernel
theorem second_policy : secondB wPolicy = tNum := by decide +kernel
theorem second_none {a : ByteArray} (h1 : a ≠ wHosts) (h2 : a ≠ wVnis) (h3 : a ≠ wBind) (h4 : a ≠ wRoutes) (h5 : a ≠ wPolicy) : secondB a = ⟨#[]⟩ := by
  unfold secondB; rw [if_neg h1, if_neg h2, if_neg h3, if_neg h4, if_neg h5]
theorem third_hosts_wIp : thirdB wHosts wIp = (tIp, true, true) := by decide +kernel
theorem third_hosts_wMac : thirdB wHosts wMac = (tMac, true, false) := by decide +kernel
theorem third_hosts_wVnis : thirdB wHosts wVnis = (tVni, false, false) := by decide +kernel
theorem third_hosts_none {c : ByteArray} (h0 : c ≠ wIp) (h1 : c ≠ wMac) (h2 : c ≠ wVnis) : thirdB wHosts c = (⟨#[]⟩, false, false) := by
  unfold thirdB; simp [h0, h1, h2]
theorem third_vnis_wSubnet : thirdB wVnis wSubnet = (tPrefix, true, true) := by decide +kernel
theorem third_vnis_none {c : ByteArray} (h0 : c ≠ wSubnet) : thirdB wVnis c = (⟨#[]⟩, false, false) := by
  unfold thirdB; simp [h0]
theorem third_bind_wHost : thirdB wBind wHost = (tName, true, true) := by decide +kernel
theorem third_bind_wMac : thirdB wBind wMac = (tMac, true, true) := by decide +kernel
theorem third_bind_wVni : thirdB wBind wVni = (tVni, true, true) := by decide +kernel
theorem third_bind_none {c : ByteArray} (h0 : c ≠ wHost) (h1 : c ≠ wMac) (h2 : c ≠ wVni) : thirdB wBind c = (⟨#[]⟩, false, false) := by
  unfold thirdB; simp [h0, h1, h2]
theorem third_routes_wVia : thirdB wRoutes wVia = (tName, true, true) := by decide +kernel
theorem third_routes_wMetric : thirdB wRoutes wMetric = (tMetric, true, false) := by decide +kernel
theorem third_routes_none {c : ByteArray} (h0 : c ≠ wVia) (h1 : c ≠ wMetric) : thirdB wRoutes c = (⟨#[]⟩, false, false) := by
  unfold thirdB; simp [h0, h1]
theorem third_policy_wAction : thirdB wPolicy wAction = (tAction, true, true) := by decide +kernel
theorem third_policy_wFrom : thirdB wPolicy wFrom = (tPrefix, true, false) := by decide +kernel
theorem third_policy_wTo : thirdB wPolicy wTo = (tPrefix, true, false) := by decide +kernel
theorem third_policy_none {c : ByteArray} (h0 : c ≠ wAction) (h1 : c ≠ wFrom) (h2 : c ≠ wTo) : thirdB wPolicy c = (⟨#[]⟩, false, false) := by
  unfold thirdB; simp [h0, h1, h2]
theorem third_none {a : ByteArray} (h1 : a ≠ wHosts) (h2 : a ≠ wVnis) (h3 : a ≠ wBind) (h4 : a ≠ wRoutes) (h5 : a ≠ wPolicy) (c : ByteArray) : thirdB a c = (⟨#[]⟩, false, false) := by
  unfold thirdB; simp [h1, h2, h3, h4, h5]
theorem rule_0 : ruleOf [] = none := by
  unfold ruleOf rulesB; simp
theorem rule_1 (a : ByteArray) : ruleOf [a] = if secondB a = ⟨#[]⟩ then none else some ⟨[a], false, false⟩ := by
  unfold ruleOf rulesB
  rcases heads a with rfl | rfl | rfl | rfl | rfl | ⟨h1, h2, h3, h4, h5⟩
  · rw [second_hosts]; simp
  · rw [second_vnis]; simp
  · rw [second_bind]; simp
  · rw [second_routes]; simp
  · rw [second_policy]; simp
  · rw [second_none h1 h2 h3 h4 h5]; simp [h1, h2, h3, h4, h5]
theorem rule_2 (a b : ByteArray) : ruleOf [a, b] = if typeB (secondB a) b then some ⟨[a, secondB a], false, false⟩ else none := by
  unfold ruleOf rulesB
  rcases heads a with rfl | rfl | rfl | rfl | rfl | ⟨h1, h2, h3, h4, h5⟩
  · rw [second_hosts]; cases h : typeB tName b <;> simp [h]
  · rw [second_vnis]; cases h : typeB tVni b <;> simp [h]
  · rw [second_bind]; cases h : typeB tIp b <;> simp [h]
  · rw [second_routes]; cases h : typeB tPrefix b <;> simp [h]
  · rw [second_policy]; cases h : typeB tNum b <;> simp [h]
  · rw [second_none h1 h2 h3 h4 h5, type_none]; simp [h1, h2, h3, h4, h5]
theorem rule_3 (a b c : ByteArray) : ruleOf [a, b, c] = if (typeB (secondB a) b && !(decide ((thirdB a c).1 = ⟨#[]⟩))) = true then some ⟨[a, secondB a, c], (thirdB a c).2.1, (thirdB a c).2.2⟩ else none := by
  unfold ruleOf rulesB
  rcases heads a with rfl | rfl | rfl | rfl | rfl | ⟨h1, h2, h3, h4, h5⟩
  · rw [second_hosts]
    by_cases e0 : c = wIp
    · subst e0; rw [third_hosts_wIp]; cases h : typeB tName b <;> simp [h]
    by_cases e1 : c = wMac
    · subst e1; rw [third_hosts_wMac]; cases h : typeB tName b <;> simp [h]
    by_cases e2 : c = wVnis
    · subst e2; rw [third_hosts_wVnis]; cases h : typeB tName b <;> simp [h]
    rw [third_hosts_none e0 e1 e2]; cases h : typeB tName b <;> simp [h, e0, e1, e2]
  · rw [second_vnis]
    by_cases e0 : c = wSubnet
    · subst e0; rw [third_vnis_wSubnet]; cases h : typeB tVni b <;> simp [h]
    rw [third_vnis_none e0]; cases h : typeB tVni b <;> simp [h, e0]
  · rw [second_bind]
    by_cases e0 : c = wHost
    · subst e0; rw [third_bind_wHost]; cases h : typeB tIp b <;> simp [h]
    by_cases e1 : c = wMac
    · subst e1; rw [third_bind_wMac]; cases h : typeB tIp b <;> simp [h]
    by_cases e2 : c = wVni
    · subst e2; rw [third_bind_wVni]; cases h : typeB tIp b <;> simp [h]
    rw [third_bind_none e0 e1 e2]; cases h : typeB tIp b <;> simp [h, e0, e1, e2]
  · rw [second_routes]
    by_cases e0 : c = wVia
    · subst e0; rw [third_routes_wVia]; cases h : typeB tPrefix b <;> simp [h]
    by_cases e1 : c = wMetric
    · subst e1; rw [third_routes_wMetric]; cases h : typeB tPrefix b <;> simp [h]
    rw [third_routes_none e0 e1]; cases h : typeB tPrefix b <;> simp [h, e0, e1]
  · rw [second_policy]
    by_cases e0 : c = wAction
    · subst e0; rw [third_policy_wAction]; cases h : typeB tNum b <;> simp [h]
    by_cases e1 : c = wFrom
    · subst e1; rw [third_policy_wFrom]; cases h : typeB tNum b <;> simp [h]
    by_cases e2 : c = wTo
    · subst e2; rw [third_policy_wTo]; cases h : typeB tNum b <;> simp [h]
    rw [third_policy_none e0 e1 e2]; cases h : typeB tNum b <;> simp [h, e0, e1, e2]
  · rw [second_none h1 h2 h3 h4 h5, type_none]; simp [h1, h2, h3, h4, h5]
theorem rule_4 (a b c d : ByteArray) : ruleOf [a, b, c, d] = if (typeB (secondB a) b && typeB (thirdB a c).1 d) = true then some ⟨[a, secondB a, c, (thirdB a c).1], false, false⟩ else none := by
  unfold ruleOf rulesB
  rcases heads a with rfl | rfl | rfl | rfl | rfl | ⟨h1, h2, h3, h4, h5⟩
  · rw [second_hosts]
    by_cases e0 : c = wIp
    · subst e0; rw [third_hosts_wIp]; cases h : typeB tName b <;> cases k : typeB tIp d <;> simp [h, k]
    by_cases e1 : c = wMac
    · subst e1; rw [third_hosts_wMac]; cases h : typeB tName b <;> cases k : typeB tMac d <;> simp [h, k]
    by_cases e2 : c = wVnis
    · subst e2; rw [third_hosts_wVnis]; cases h : typeB tName b <;> cases k : typeB tVni d <;> simp [h, k]
    rw [third_hosts_none e0 e1 e2]; rw [type_none]; cases h : typeB tName b <;> simp [h, e0, e1, e2]
  · rw [second_vnis]
    by_cases e0 : c = wSubnet
    · subst e0; rw [third_vnis_wSubnet]; cases h : typeB tVni b <;> cases k : typeB tPrefix d <;> simp [h, k]
    rw [third_vnis_none e0]; rw [type_none]; cases h : typeB tVni b <;> simp [h, e0]
  · rw [second_bind]
    by_cases e0 : c = wHost
    · subst e0; rw [third_bind_wHost]; cases h : typeB tIp b <;> cases k : typeB tName d <;> simp [h, k]
    by_cases e1 : c = wMac
    · subst e1; rw [third_bind_wMac]; cases h : typeB tIp b <;> cases k : typeB tMac d <;> simp [h, k]
    by_cases e2 : c = wVni
    · subst e2; rw [third_bind_wVni]; cases h : typeB tIp b <;> cases k : typeB tVni d <;> simp [h, k]
    rw [third_bind_none e0 e1 e2]; rw [type_none]; cases h : typeB tIp b <;> simp [h, e0, e1, e2]
  · rw [second_routes]
    by_cases e0 : c = wVia
    · subst e0; rw [third_routes_wVia]; cases h : typeB tPrefix b <;> cases k : typeB tName d <;> simp [h, k]
    by_cases e1 : c = wMetric
    · subst e1; rw [third_routes_wMetric]; cases h : typeB tPrefix b <;> cases k : typeB tMetric d <;> simp [h, k]
    rw [third_routes_none e0 e1]; rw [type_none]; cases h : typeB tPrefix b <;> simp [h, e0, e1]
  · rw [second_policy]
    by_cases e0 : c = wAction
    · subst e0; rw [third_policy_wAction]; cases h : typeB tNum b <;> cases k : typeB tAction d <;> simp [h, k]
    by_cases e1 : c = wFrom
    · subst e1; rw [third_policy_wFrom]; cases h : typeB tNum b <;> cases k : typeB tPrefix d <;> simp [h, k]
    by_cases e2 : c = wTo
    · subst e2; rw [third_policy_wTo]; cases h : typeB tNum b <;> cases k : typeB tPrefix d <;> simp [h, k]
    rw [third_policy_none e0 e1 e2]; rw [type_none]; cases h : typeB tNum b <;> simp [h, e0, e1, e2]
  · rw [second_none h1 h2 h3 h4 h5, type_none]; simp [h1, h2, h3, h4, h5]
theorem rule_long {p : List ByteArray} (h : 4 < p.length) : ruleOf p = none := by
  unfold ruleOf
  rw [List.find?_eq_none]
  intro r hr
  have hall : ∀ r ∈ rulesB, r.path.length ≤ 4 := by decide +kernel
  have := hall r hr
  rw [match_short (by omega)]; simp
theorem form_0 : unknownOf [] = 3 := by decide +kernel
theorem form_1 (a : ByteArray) : unknownOf [a] = 3 := by
  unfold unknownOf
  rw [if_neg]
  unfold rulesB formB; simp [ty_wHosts, ty_wVnis, ty_wBind, ty_wRoutes, ty_wPolicy]
theorem form_2 (a b : ByteArray) (h : secondB a ≠ ⟨#[]⟩) : unknownOf [a, b] = 2 := by
  unfold unknownOf
  rw [if_pos]
  unfold rulesB formB
  rcases heads a with rfl | rfl | rfl | rfl | rfl | ⟨h1, h2, h3, h4, h5⟩
  · simp [ty_tName, ty_tIp, ty_tPrefix, ty_tVni, ty_tNum]
  · simp [ty_tName, ty_tIp, ty_tPrefix, ty_tVni, ty_tNum]
  · simp [ty_tName, ty_tIp, ty_tPrefix, ty_tVni, ty_tNum]
  · simp [ty_tName, ty_tIp, ty_tPrefix, ty_tVni, ty_tNum]
  · simp [ty_tName, ty_tIp, ty_tPrefix, ty_tVni, ty_tNum]
  · exact absurd (second_none h1 h2 h3 h4 h5) h
theorem form_3 (a b c : ByteArray) : unknownOf [a, b, c] = 3 := by
  unfold unknownOf
  rw [if_neg]
  unfold rulesB formB; simp [ty_wIp, ty_wMac, ty_wVnis, ty_wSubnet, ty_wHost, ty_wVni, ty_wVia, ty_wMetric, ty_wAction, ty_wFrom, ty_wTo]
theorem form_4 (a b c d : ByteArray) (h : typeB (secondB a) b = true) (k : (thirdB a c).1 ≠ ⟨#[]⟩) : unknownOf [a, b, c, d] = 2 := by
  unfold unknownOf
  rw [if_pos]
  unfold rulesB formB
  rcases heads a with rfl | rfl | rfl | rfl | rfl | ⟨h1, h2, h3, h4, h5⟩
  · rw [second_hosts] at h
    by_cases e0 : c = wIp
    · subst e0; simp [h, ty_tName, ty_tIp, ty_tPrefix, ty_tMac, ty_tVni, ty_tMetric, ty_tAction]
    by_cases e1 : c = wMac
    · subst e1; simp [h, ty_tName, ty_tIp, ty_tPrefix, ty_tMac, ty_tVni, ty_tMetric, ty_tAction]
    by_cases e2 : c = wVnis
    · subst e2; simp [h, ty_tName, ty_tIp, ty_tPrefix, ty_tMac, ty_tVni, ty_tMetric, ty_tAction]
    exact absurd (by rw [third_hosts_none e0 e1 e2]) k
  · rw [second_vnis] at h
    by_cases e0 : c = wSubnet
    · subst e0; simp [h, ty_tName, ty_tIp, ty_tPrefix, ty_tMac, ty_tVni, ty_tMetric, ty_tAction]
    exact absurd (by rw [third_vnis_none e0]) k
  · rw [second_bind] at h
    by_cases e0 : c = wHost
    · subst e0; simp [h, ty_tName, ty_tIp, ty_tPrefix, ty_tMac, ty_tVni, ty_tMetric, ty_tAction]
    by_cases e1 : c = wMac
    · subst e1; simp [h, ty_tName, ty_tIp, ty_tPrefix, ty_tMac, ty_tVni, ty_tMetric, ty_tAction]
    by_cases e2 : c = wVni
    · subst e2; simp [h, ty_tName, ty_tIp, ty_tPrefix, ty_tMac, ty_tVni, ty_tMetric, ty_tAction]
    exact absurd (by rw [third_bind_none e0 e1 e2]) k
  · rw [second_routes] at h
    by_cases e0 : c = wVia
    · subst e0; simp [h, ty_tName, ty_tIp, ty_tPrefix, ty_tMac, ty_tVni, ty_tMetric, ty_tAction]
    by_cases e1 : c = wMetric
    · subst e1; simp [h, ty_tName, ty_tIp, ty_tPrefix, ty_tMac, ty_tVni, ty_tMetric, ty_tAction]
    exact absurd (by rw [third_routes_none e0 e1]) k
  · rw [second_policy] at h
    by_cases e0 : c = wAction
    · subst e0; simp [h, ty_tName, ty_tIp, ty_tPrefix, ty_tMac, ty_tVni, ty_tMetric, ty_tAction]
    by_cases e1 : c = wFrom
    · subst e1; simp [h, ty_tName, ty_tIp, ty_tPrefix, ty_tMac, ty_tVni, ty_tMetric, ty_tAction]
    by_cases e2 : c = wTo
    · subst e2; simp [h, ty_tName, ty_tIp, ty_tPrefix, ty_tMac, ty_tVni, ty_tMetric, ty_tAction]
    exact absurd (by rw [third_policy_none e0 e1 e2]) k
  · rw [second_none h1 h2 h3 h4 h5, type_none] at h; cases h
theorem form_long {p : List ByteArray} (h : 4 < p.length) : unknownOf p = 3 := by
  unfold unknownOf
  rw [if_neg]
  rw [List.any_eq_true]
  rintro ⟨r, hr, h2⟩
  have hall : ∀ r ∈ rulesB, r.path.length ≤ 4 := by decide +kernel
  have := hall r hr
  unfold formB at h2
  simp only [Bool.and_eq_true, decide_eq_true_eq] at h2
  omega
theorem needs_2 (a b : ByteArray) : needsOf [a, b] = if typeB (secondB a) b then needs2 a else [] := by
  unfold needsOf rulesB needB lastW
  rcases heads a with rfl | rfl | rfl | rfl | rfl | ⟨h1, h2, h3, h4, h5⟩
  · rw [second_hosts]; cases h : typeB tName b <;> simp [h, needs2]
  · rw [second_vnis]; cases h : typeB tVni b <;> simp [h, needs2]
  · rw [second_bind]; cases h : typeB tIp b <;> simp [h, needs2]
  · rw [second_routes]; cases h : typeB tPrefix b <;> simp [h, needs2]
  · rw [second_policy]; cases h : typeB tNum b <;> simp [h, needs2]
  · rw [second_none h1 h2 h3 h4 h5, type_none]; simp [h1, h2, h3, h4, h5]
theorem needs_other {p : List ByteArray} (h : p.length ≠ 2) : needsOf p = [] := by
  unfold needsOf
  have hall : ∀ r ∈ rulesB, r.needed = true → (r.path.take (r.path.length - 1)).length = 2 := by decide +kernel
  rw [List.filter_eq_nil_iff.2]
  · rfl
  · intro r hr h2
    unfold needB at h2
    rw [Bool.and_eq_true] at h2
    have := match_len h2.2
    rw [hall r hr h2.1] at this
    omega
end Sch

namespace Go.Proofs.YtlldjkhlhfnfeaaGreatDoor
open Go Go.RowKit Tre

/-- The value reads as a path that is not empty; its cells begin a block. -/
def Pv (w : World) (v : Value) (P : List ByteArray) : Prop :=
  ∃ b c, v = .slice (some ⟨b, 0, none⟩) P.length c ∧ P.length ≤ c ∧ c ≤ maxLen ∧ 0 < P.length ∧ Rd w 1 (some ⟨b, 0, none⟩) P.length (sv P)
theorem Pv.below {w w' : World} {v : Value} {P : List ByteArray} (h : Pv w v P) (hb : Below w.heap.size w w') : Pv w' v P := by
  obtain ⟨b, c, h1, h2, h3, h4, h5⟩ := h
  exact ⟨b, c, h1, h2, h3, h4, h5.below hb⟩
theorem Pv.head {w : World} {v : Value} {P : List ByteArray} (h : Pv w v P) : ∃ b c s, v = .slice (some ⟨b, 0, none⟩) P.length c ∧ b < w.heap.size ∧ w.cell? ⟨b, 0, none⟩ = some (.string s) := by
  obtain ⟨b, c, h1, -, -, h4, h5⟩ := h
  obtain ⟨ad, e, hb, hx⟩ := h5.2 h4
  injection e with e
  subst e
  have := hx 0 _ (sv_get h4)
  rw [add_plain] at this
  exact ⟨b, c, P[0], h1, hb, this⟩
theorem Pv.slice {w : World} {v : Value} {P : List ByteArray} (h : Pv w v P) : ∃ b c, v = .slice (some ⟨b, 0, none⟩) P.length c ∧ P.length ≤ c ∧ c ≤ maxLen ∧ 0 < P.length ∧ b < w.heap.size ∧ Pv w (.slice (some ⟨b, 0, none⟩) P.length c) P ∧ Rd w 1 (some ⟨b, 0, none⟩) P.length (sv P) := by
  obtain ⟨b', c', s, h1, hb, -⟩ := h.head
  obtain ⟨b, c, rfl, h2, h3, h4, h5⟩ := h
  injection h1 with e
  injection e with e
  injection e with e
  subst e
  exact ⟨b, c, rfl, h2, h3, h4, hb, ⟨b, c, rfl, h2, h3, h4, h5⟩, h5⟩
theorem Pv.rd {w : World} {b c : Nat} {P : List ByteArray} (h : Pv w (.slice (some ⟨b, 0, none⟩) P.length c) P) : Rd w 1 (some ⟨b, 0, none⟩) P.length (sv P) ∧ P.length ≤ c ∧ c ≤ maxLen ∧ 0 < P.length ∧ b < w.heap.size := by
  obtain ⟨b', c', e, h1, h2, h3, h4, -, h5⟩ := h.slice
  injection e with e1 _ e2
  injection e1 with e1
  injection e1 with e1
  subst e1 e2
  exact ⟨h5, h1, h2, h3, h4⟩
theorem Pv.one {w : World} {v : Value} {P : List ByteArray} (h : Pv w v P) : v.oneCell' = true := by
  obtain ⟨b, c, rfl, -⟩ := h; rfl
theorem Pv.kept {w w' : World} {v : Value} {P : List ByteArray} {row : Option Nat} (h : Pv w v P) (hg : w.grownBy w' row) (hne : ∀ b c, v = .slice (some ⟨b, 0, none⟩) P.length c → some b ≠ row) : Pv w' v P := by
  obtain ⟨b, c, h1, h2, h3, h4, h5⟩ := h
  refine ⟨b, c, h1, h2, h3, h4, h5.1, fun hn => ?_⟩
  obtain ⟨ad, e, hb, hx⟩ := h5.2 hn
  injection e with e
  subst e
  refine ⟨_, rfl, Nat.lt_of_lt_of_le hb hg.size, fun j u hu => ?_⟩
  exact hg.cell (hx j u hu) (by rw [add_block]; exact hne b c h1)

/-- An element: its path, and the cells behind it. -/
abbrev Item := List ByteArray × List Value
def icells : List Value → List Item → List Value
  | v :: vs, x :: xs => v :: x.2 ++ icells vs xs
  | _, _ => []
theorem icells_append : ∀ {vs us : List Value} {xs ys : List Item}, vs.length = xs.length → icells (vs ++ us) (xs ++ ys) = icells vs xs ++ icells us ys
  | [], _, [], _, _ => rfl
  | v :: vs, us, x :: xs, ys, h => by
    simp only [List.cons_append, icells]
    rw [icells_append (by simpa using h), List.append_assoc]
  | [], _, _ :: _, _, h => by cases h
  | _ :: _, _, [], _, h => by cases h
theorem icells_one (v : Value) (x : Item) : icells [v] [x] = v :: x.2 := by simp [icells]
theorem icells_length {k : Nat} : ∀ {vs : List Value} {xs : List Item}, vs.length = xs.length → (∀ x ∈ xs, x.2.length + 1 = k) → (icells vs xs).length = xs.length * k
  | [], [], _, _ => by simp [icells]
  | v :: vs, x :: xs, h, hk => by
    have h1 := hk x (by simp)
    have ih := icells_length (vs := vs) (xs := xs) (by simpa using h) (fun y hy => hk y (by simp [hy]))
    simp only [icells, List.length_append, List.length_cons, ih, Nat.add_mul]
    omega
  | [], _ :: _, h, _ => by cases h
  | _ :: _, [], h, _ => by cases h
theorem icells_get {k : Nat} : ∀ {vs : List Value} {xs : List Item} (_ : vs.length = xs.length) (_ : ∀ x ∈ xs, x.2.length + 1 = k) (i : Nat) (hi : i < xs.length) (hv : i < vs.length) (j : Nat) (_ : j < k), (icells vs xs)[i * k + j]? = (vs[i] :: xs[i].2)[j]?
  | [], [], _, _, i, hi, _, _, _ => absurd hi (by simp)
  | v :: vs, x :: xs, h, hk, i, hi, hv, j, hj => by
    have h1 := hk x (by simp)
    cases i with
    | zero =>
      simp only [icells, List.getElem_cons_zero]
      rw [List.getElem?_append_left (by simp; omega)]; simp
    | succ i =>
      simp only [icells, List.getElem_cons_succ]
      rw [List.getElem?_append_right (by simp [Nat.add_mul]; omega)]
      rw [← icells_get (vs := vs) (xs := xs) (by simpa using h) (fun y hy => hk y (by simp [hy])) i (by simpa using hi) (by simpa using hv) j hj]
      congr 1
      simp [Nat.add_mul]; omega
  | [], _ :: _, h, _, _, _, _, _, _ => by cases h
  | _ :: _, [], h, _, _, _, _, _, _ => by cases h
theorem icells_cell {vs : List Value} {xs : List Item} (h1 : ∀ v ∈ vs, v.oneCell' = true) (h2 : ∀ x ∈ xs, ∀ u ∈ x.2, u.oneCell' = true) : ∀ u ∈ icells vs xs, u.oneCell' = true := by
  induction vs generalizing xs with
  | nil => intro u hu; simp [icells] at hu
  | cons v vs ih =>
    cases xs with
    | nil => intro u hu; simp [icells] at hu
    | cons x xs =>
      intro u hu
      simp only [icells, List.cons_append, List.mem_cons, List.mem_append] at hu
      rcases hu with rfl | hu | hu
      · exact h1 _ (by simp)
      · exact h2 x (by simp) u hu
      · exact ih (fun v hv => h1 v (by simp [hv])) (fun y hy => h2 y (by simp [hy])) u hu

/-- Each value reads as its element's path. -/
def Pvs (w : World) (vs : List Value) (xs : List Item) : Prop := vs.length = xs.length ∧ ∀ (i : Nat) (h : i < xs.length) (hv : i < vs.length), Pv w vs[i] xs[i].1
theorem Pvs.below {w w' : World} {vs : List Value} {xs : List Item} (h : Pvs w vs xs) (hb : Below w.heap.size w w') : Pvs w' vs xs := ⟨h.1, fun i hi hv => (h.2 i hi hv).below hb⟩
theorem Pvs.append {w : World} {vs us : List Value} {xs ys : List Item} (h : Pvs w vs xs) (k : Pvs w us ys) : Pvs w (vs ++ us) (xs ++ ys) := by
  refine ⟨by rw [List.length_append, List.length_append, h.1, k.1], fun i hi hv => ?_⟩
  by_cases hlt : i < xs.length
  · rw [List.getElem_append_left hlt, List.getElem_append_left (by rw [h.1]; exact hlt)]
    exact h.2 i hlt _
  · have hlv : vs.length = xs.length := h.1
    have hi2 : i - xs.length < ys.length := by rw [List.length_append] at hi; omega
    have e1 : (xs ++ ys)[i] = ys[i - xs.length] := List.getElem_append_right (by omega)
    have e2 : (vs ++ us)[i] = us[i - vs.length]'(by rw [k.1]; omega) := List.getElem_append_right (by omega)
    rw [e1, e2]
    have := k.2 (i - xs.length) hi2 (by rw [k.1]; exact hi2)
    simpa only [h.1] using this
theorem Pvs.one {w : World} {vs : List Value} {xs : List Item} (h : Pvs w vs xs) : ∀ v ∈ vs, v.oneCell' = true := by
  intro v hv
  obtain ⟨i, hi, rfl⟩ := List.getElem_of_mem hv
  exact (h.2 i (by rw [← h.1]; exact hi) hi).one
theorem Pvs.nil {w : World} : Pvs w [] [] := ⟨rfl, fun i h => absurd h (by simp)⟩
theorem Pvs.single {w : World} {v : Value} {x : Item} (h : Pv w v x.1) : Pvs w [v] [x] := by
  refine ⟨rfl, fun i hi _ => ?_⟩
  obtain rfl : i = 0 := by simpa using hi
  exact h

/-- The slice reads as such elements. -/
def Pd (w : World) (k : Nat) (A : Option Addr) (xs : List Item) : Prop := (∀ x ∈ xs, x.2.length + 1 = k) ∧ ∃ vs, Pvs w vs xs ∧ Rd w k A xs.length (icells vs xs)
theorem Pd.below {w w' : World} {k : Nat} {A : Option Addr} {xs : List Item} (h : Pd w k A xs) (hb : Below w.heap.size w w') : Pd w' k A xs := by
  obtain ⟨h1, vs, h2, h3⟩ := h
  exact ⟨h1, vs, h2.below hb, h3.below hb⟩
/-- The slice is the call's own, and reads as such elements; without any it is nil. -/
def Pl (w : World) (base : Nat) (T : TypeId) (k : Nat) (v : Value) (xs : List Item) : Prop :=
  (∀ x ∈ xs, x.2.length + 1 = k) ∧ (xs = [] → v = .slice none 0 0) ∧ ∃ vs, Pvs w vs xs ∧ w.ownsRow base T k v xs.length (icells vs xs)
theorem Pl.nil (w : World) (base : Nat) (T : TypeId) (k : Nat) : Pl w base T k (.slice none 0 0) [] := ⟨by simp, fun _ => rfl, [], Pvs.nil, World.ownsRow_nil _ _ _ _⟩
theorem Pl.below {w w' : World} {base : Nat} {T : TypeId} {k : Nat} {v : Value} {xs : List Item} (h : Pl w base T k v xs) (hb : Below w.heap.size w w') : Pl w' base T k v xs := by
  obtain ⟨h1, h2, vs, h3, h4⟩ := h
  exact ⟨h1, h2, vs, h3.below hb, own_below h4 hb⟩
theorem Pl.base {w : World} {base b2 : Nat} {T : TypeId} {k : Nat} {v : Value} {xs : List Item} (h : Pl w base T k v xs) (hb : b2 ≤ base) : Pl w b2 T k v xs := by
  obtain ⟨h1, h2, vs, h3, h4⟩ := h
  exact ⟨h1, h2, vs, h3, own_base h4 hb⟩
theorem Pl.read {w : World} {base : Nat} {T : TypeId} {k : Nat} {v : Value} {xs : List Item} (h : Pl w base T k v xs) : ∃ A c, v = .slice A xs.length c ∧ xs.length ≤ c ∧ c ≤ maxLen ∧ Pd w k A xs ∧ (A = none → c = 0) := by
  obtain ⟨h1, h2, vs, h3, h4⟩ := h
  obtain ⟨A, c, e, a, b, r, n, -⟩ := own_rd_nil h4
  exact ⟨A, c, e, a, b, ⟨h1, vs, h3, r⟩, n⟩
/-- No path lies in the block of what the call owns. -/
theorem own_apart {w : World} {base : Nat} {T : TypeId} {k : Nat} {v : Value} {xs : List Item} (h : Pl w base T k v xs) (_hk : 0 < k) {u : Value} {P : List ByteArray} (hp : Pv w u P) : ∀ b c, u = .slice (some ⟨b, 0, none⟩) P.length c → some b ≠ v.ownBlock := by
  intro b c hu e
  obtain ⟨h1, h2, vs, h3, h4⟩ := h
  obtain ⟨b', c', s, hu', hb, hs⟩ := hp.head
  rw [hu] at hu'
  injection hu' with hA
  injection hA with hA
  injection hA with hA
  subst hA
  rcases xs with _ | ⟨x, xs⟩
  · rw [h2 rfl] at e; cases e
  · cases vs with
    | nil => exact absurd h3.1 (by simp)
    | cons v0 vs =>
      have hx : (icells (v0 :: vs) (x :: xs))[0]? = some v0 := by simp [icells]
      have hc := h4.cells e.symm 0 v0 hx
      rw [add_plain, hs] at hc
      obtain ⟨b2, c2, h5, -⟩ := h3.2 0 (by simp) (by simp)
      simp only [List.getElem_cons_zero] at h5
      rw [h5] at hc
      cases hc
/-- Behind an append. -/
theorem Pl.grow {w w' : World} {base : Nat} {T : TypeId} {k : Nat} {v v' : Value} {xs ys : List Item} {us : List Value} (h : Pl w base T k v xs) (hk : 0 < k) (hys : ∀ x ∈ ys, x.2.length + 1 = k) (hu : Pvs w us ys)
    (hown : ∀ vs, Pvs w vs xs → w.ownsRow base T k v xs.length (icells vs xs) → w'.ownsRow base T k v' (xs.length + ys.length) (icells vs xs ++ icells us ys)) (hg : w.grownBy w' v.ownBlock) (hnil : v' = .slice none 0 0 ↔ v = .slice none 0 0 ∧ ys.length = 0) :
    Pl w' base T k v' (xs ++ ys) := by
  have hap := fun (u : Value) (P : List ByteArray) (hp : Pv w u P) => own_apart h hk hp
  obtain ⟨h1, h2, vs, h3, h4⟩ := h
  refine ⟨fun x hx => ?_, fun e => ?_, vs ++ us, ?_, ?_⟩
  · rcases List.mem_append.1 hx with hx | hx
    · exact h1 x hx
    · exact hys x hx
  · obtain ⟨rfl, rfl⟩ := List.append_eq_nil_iff.1 e
    exact hnil.2 ⟨h2 rfl, rfl⟩
  · have e1 : Pvs w' vs xs := ⟨h3.1, fun i hi hv => (h3.2 i hi hv).kept hg (hap _ _ (h3.2 i hi hv))⟩
    have e2 : Pvs w' us ys := ⟨hu.1, fun i hi hv => (hu.2 i hi hv).kept hg (hap _ _ (hu.2 i hi hv))⟩
    exact e1.append e2
  · rw [icells_append h3.1, List.length_append]
    exact hown vs h3 h4
/-- An append of one element that the call has just laid. -/
theorem app_item {P : Program} {ops : Array Oper} {rest : List Oper} {o : Oper} {a : Act} {Q : Exit → Act → World → Prop} (hgd : o.guard = none) (s x : Operand) (t : TypeId)
    (ho : o.op = .call { callee := .builtin .append, args := #[s, x], argTypes := #[t, t] })
    (w0 wr : World) (e : TypeId) (i : TypeInfo) (z : Value) (k bytes : Nat) (ht : P.underlying t = some (.slice e)) (hi : P.info? e = some i) (hz : i.zero = some z)
    (hsize : i.size = k) (hby : i.bytes = bytes) (hzs : z.cells.size = k) (hsz : 0 < k) (hb64 : bytes ≤ 64)
    {v : Value} {xs : List Item} (hown : Pl wr w0.heap.size e k v xs) (hb : Below w0.heap.size w0 wr) (hs : a.eval s = v)
    (u : Value) (y : Item) (hy : y.2.length + 1 = k) (hy1 : ∀ c ∈ y.2, c.oneCell' = true) (hu : Pv wr u y.1) (hx : a.eval x = .slice (some ⟨wr.heap.size, 0, none⟩) 1 1) (hN : xs.length + 1 ≤ 1000000000)
    (h : ∀ v' w', Pl w' w0.heap.size e k v' (xs ++ [y]) → Below w0.heap.size w0 w' → wpList P ops Q rest (a.put o.dst v') w') :
    wpList P ops Q (o :: rest) a (wr.alloc (.cells (u :: y.2).toArray e)) := by
  have hbytes : (xs.length + 1) * bytes ≤ 140737488355328 := Nat.le_trans (Nat.mul_le_mul hN hb64) (by decide)
  have hba : Below wr.heap.size wr (wr.alloc (.cells (u :: y.2).toArray e)) := (Below.refl _ _).alloc (Nat.le_refl _) _
  have hP := hown.below hba
  obtain ⟨-, -, vs, h3, h4⟩ := hP
  refine wpList_append_own _ hgd s x t ho w0.heap.size e i z k bytes ht hi hz hsize hby hzs hsz v xs.length (icells vs xs) hs h4 ⟨wr.heap.size, 0, none⟩ 1 1 (u :: y.2) hx (by simp; omega) ?_ ?_ (by unfold maxLen; omega) hbytes (Nat.le_trans hb.size (by simp)) ?_
  · intro j c hc
    rw [add_plain, Nat.zero_add, World.cell?_alloc_at _ _ _ _ rfl]
    simpa using hc
  · intro c hc
    rcases List.mem_cons.1 hc with rfl | hc
    · exact hu.one
    · exact hy1 c hc
  · intro v' w' hown' hg hnil
    refine h v' w' ?_ ((hb.alloc hb.size _).grown hg (Nat.le_trans hb.size (by simp)) fun q hq => (h4.lt q hq).1)
    have hP := hown.below hba
    refine ⟨fun c hc => ?_, fun e => by simp at e, vs ++ [u], ?_, ?_⟩
    · rcases List.mem_append.1 hc with hc | hc
      · exact hown.1 c hc
      · rw [List.mem_singleton.1 hc]; exact hy
    · have e1 : Pvs w' vs xs := ⟨h3.1, fun i hi hv => (h3.2 i hi hv).kept hg (own_apart hP hsz (h3.2 i hi hv))⟩
      exact e1.append (Pvs.single ((hu.below hba).kept hg (own_apart hP hsz (hu.below hba))))
    · rw [icells_append h3.1, icells_one, List.length_append]
      exact hown'
/-- An append of all elements of a slice. -/
theorem app_items {P : Program} {ops : Array Oper} {rest : List Oper} {o : Oper} {a : Act} {Q : Exit → Act → World → Prop} (hgd : o.guard = none) (s x : Operand) (t : TypeId)
    (ho : o.op = .call { callee := .builtin .append, args := #[s, x], argTypes := #[t, t] })
    (w0 wr : World) (e : TypeId) (i : TypeInfo) (z : Value) (k bytes : Nat) (ht : P.underlying t = some (.slice e)) (hi : P.info? e = some i) (hz : i.zero = some z)
    (hsize : i.size = k) (hby : i.bytes = bytes) (hzs : z.cells.size = k) (hsz : 0 < k) (hb64 : bytes ≤ 64)
    {v : Value} {xs : List Item} (hown : Pl wr w0.heap.size e k v xs) (hb : Below w0.heap.size w0 wr) (hs : a.eval s = v)
    (A : Option Addr) (c : Nat) (ys : List Item) (hx : a.eval x = .slice A ys.length c) (hR : Pd wr k A ys) (hnil : A = none → c = 0) (h1 : ∀ y ∈ ys, ∀ u ∈ y.2, u.oneCell' = true)
    (hN : xs.length + ys.length ≤ 1000000000)
    (h : ∀ v' w', Pl w' w0.heap.size e k v' (xs ++ ys) → Below w0.heap.size w0 w' → wpList P ops Q rest (a.put o.dst v') w') :
    wpList P ops Q (o :: rest) a wr := by
  have hbytes : (xs.length + ys.length) * bytes ≤ 140737488355328 := Nat.le_trans (Nat.mul_le_mul hN hb64) (by decide)
  obtain ⟨hk, us, hu, hr⟩ := hR
  have hown0 := hown
  obtain ⟨hx1, hx2, vs, h3, h4⟩ := hown
  rcases A with _ | ad
  · have hm : ys.length = 0 := by
      rcases Nat.eq_zero_or_pos ys.length with h0 | h0
      · exact h0
      · obtain ⟨ad, h, -⟩ := hr.2 h0
        cases h
    have hy0 : ys = [] := List.eq_nil_of_length_eq_zero hm
    subst hy0
    obtain rfl := hnil rfl
    exact wpList_append_own_none hgd s x t ho w0.heap.size e i k ht hi v xs.length (icells vs xs) hs h4 hx (h v wr (by simpa using hown0) hb)
  · refine wpList_append_own _ hgd s x t ho w0.heap.size e i z k bytes ht hi hz hsize hby hzs hsz v xs.length (icells vs xs) hs h4 ad ys.length c (icells us ys) hx hr.1 ?_ (icells_cell hu.one h1) (by unfold maxLen; omega) hbytes hb.size ?_
    · intro j u hu
      obtain ⟨ad', e', -, hc⟩ := hr.cell hu
      injection e' with e'
      subst e'
      exact hc
    · intro v' w' hown' hg hn
      refine h v' w' ?_ (hb.grown hg hb.size fun q hq => (h4.lt q hq).1)
      refine ⟨fun x hx => ?_, fun e => ?_, vs ++ us, ?_, ?_⟩
      · rcases List.mem_append.1 hx with hx | hx
        · exact hx1 x hx
        · exact hk x hx
      · obtain ⟨rfl, rfl⟩ := List.append_eq_nil_iff.1 e
        exact hn.2 ⟨hx2 rfl, rfl⟩
      · have e1 : Pvs w' vs xs := ⟨h3.1, fun i hi hv => (h3.2 i hi hv).kept hg (own_apart hown0 hsz (h3.2 i hi hv))⟩
        have e2 : Pvs w' us ys := ⟨hu.1, fun i hi hv => (hu.2 i hi hv).kept hg (own_apart hown0 hsz (hu.2 i hi hv))⟩
        exact e1.append e2
      · rw [icells_append h3.1, List.length_append]
        exact hown'
/-- The cells of one element. -/
theorem Pd.at {w : World} {k : Nat} {A : Option Addr} {xs : List Item} (h : Pd w k A xs) {i : Nat} (hi : i < xs.length) :
    ∃ B O v, A = some ⟨B, O, none⟩ ∧ B < w.heap.size ∧ (⟨B, O, none⟩ : Addr).add (i * k) = ⟨B, O + i * k, none⟩ ∧ Pv w v xs[i].1 ∧ w.cell? ⟨B, O + i * k, none⟩ = some v ∧ ∀ j u, xs[i].2[j]? = some u → w.cell? ⟨B, O + i * k + (j + 1), none⟩ = some u := by
  obtain ⟨hk, vs, hv, hr⟩ := h
  obtain ⟨ad, e, hb, hx⟩ := hr.2 (by omega)
  have hkk := hk xs[i] (List.getElem_mem hi)
  have hiv : i < vs.length := by rw [hv.1]; exact hi
  have g := icells_get hv.1 hk i hi hiv
  have h0 := hx (i * k + 0) vs[i] (by rw [g 0 (by omega)]; rfl)
  have hs : ad.spot = none := by
    have := hx 0 _ (by
      have := icells_get hv.1 hk 0 (by omega) (by omega) 0 (by have := hk xs[0] (List.getElem_mem _); omega)
      rw [Nat.zero_mul, Nat.zero_add] at this
      rw [this]; rfl)
    exact World.cell?_spot this
  obtain ⟨B, O, sp⟩ := ad
  obtain rfl : sp = none := hs
  rw [add_plain] at h0
  refine ⟨B, O, vs[i], e, hb, add_plain _ _ _, hv.2 i hi hiv, h0, fun j u hu => ?_⟩
  have hj : j < xs[i].2.length := (List.getElem?_eq_some_iff.1 hu).1
  have := hx (i * k + (j + 1)) u (by rw [g (j + 1) (by omega)]; exact hu)
  rw [add_plain, ← Nat.add_assoc] at this
  exact this
end Go.Proofs.YtlldjkhlhfnfeaaGreatDoor

namespace Go.Proofs.YtlldjkhlhfnfeaaGreatDoor
open Go Go.RowKit Tre

theorem below_new (w : World) (o : Obj) : Below w.heap.size w (w.alloc o) := (Below.refl _ _).alloc (Nat.le_refl _) _
theorem cells_at (w : World) (cs : Array Value) (T : TypeId) : ∀ j z, cs.toList[j]? = some z → (w.alloc (.cells cs T)).cell? ((⟨w.heap.size, 0, none⟩ : Addr).add j) = some z := fun j z hz => by
  rw [add_plain, Nat.zero_add, World.cell?_alloc_at _ _ _ _ rfl]
  simpa using hz
theorem step_push {P : Program} {ops : Array Oper} {o : Oper} {a : Act} {K : Act → World → Prop} {Q : Exit → Act → World → Prop} {E : Prop} (hgd : o.guard = none) (s x : Operand) (t : TypeId)
    (ho : o.op = .call { callee := .builtin .append, args := #[s, x], argTypes := #[t, t] }) (e : TypeId) (i : TypeInfo) (z : Value) (ht : P.underlying t = some (.slice e)) (hi : P.info? e = some i) (hz : i.zero = some z)
    (hsize : i.size = 1) (hby : i.bytes = 16) (hzs : z.cells.size = 1) {w0 w : World} {v : Value} {L : List ByteArray} (hs : a.eval s = v) (hown : w.ownsRow w0.heap.size e 1 v L.length (sv L)) (hb : Below w0.heap.size w0 w) (hL : L.length ≤ 1000000)
    (u : ByteArray) (ad : Addr) (c : Nat) (hx : a.eval x = .slice (some ad) 1 c) (hc : w.cell? ad = some (.string u))
    (h : ∀ g c' w', Pv w' (.slice (some ⟨g, 0, none⟩) (L.length + 1) c') (L ++ [u]) → Below w0.heap.size w0 w' → K (a.put o.dst (.slice (some ⟨g, 0, none⟩) (L.length + 1) c')) w') :
    if Region.wanted o (yielded ops a.tmps) = true then Oper.wp P o a w K Q else E := by
  refine step_append_lies w hgd s x t ho w0.heap.size e i z 1 16 ht hi hz hsize hby hzs (by decide) v L.length (sv L) hs hown ad 1 c [.string u] hx rfl ?_ ?_ (by decide) (by unfold maxLen; omega) (by omega) hb.size w.heap.size rfl ?_
  · intro j y hy
    obtain ⟨rfl, rfl⟩ : j = 0 ∧ y = .string u := by
      have := (List.getElem?_eq_some_iff.1 hy).1
      simp at this
      subst this
      simp at hy
      exact ⟨rfl, hy.symm⟩
    have hs := World.cell?_spot hc
    obtain ⟨B, O, sp⟩ := ad
    obtain rfl : sp = none := hs
    rw [add_plain]; exact hc
  · intro y hy
    rw [List.mem_singleton.1 hy]; rfl
  · intro g cap w' h2 h3 h4 h5
    have h2' := h2
    have hl : (L ++ [u]).length = L.length + 1 := by simp
    refine h g cap w' ?_ (hb.grown h3 hb.size fun q hq => (hown.lt q hq).1)
    rw [show sv L ++ [Value.string u] = sv (L ++ [u]) by rw [sv_app]; rfl] at h2'
    obtain ⟨A, c', e', h6, h7, h8, -⟩ := own_rd_nil h2'
    injection e' with e1 e2 e3
    subst e1 e3
    exact ⟨g, cap, by rw [hl], by rw [hl]; exact h6, h7, by rw [hl]; omega, by rw [hl]; exact h8⟩

theorem step_item {P : Program} {ops : Array Oper} {o : Oper} {a : Act} {K : Act → World → Prop} {Q : Exit → Act → World → Prop} {E : Prop} (hgd : o.guard = none) (s x : Operand) (t : TypeId)
    (ho : o.op = .call { callee := .builtin .append, args := #[s, x], argTypes := #[t, t] }) (e : TypeId) (i : TypeInfo) (z : Value) (k bytes : Nat) (ht : P.underlying t = some (.slice e)) (hi : P.info? e = some i) (hz : i.zero = some z)
    (hsize : i.size = k) (hby : i.bytes = bytes) (hzs : z.cells.size = k) (hsz : 0 < k) (hb64 : bytes ≤ 64) {w0 w : World} {v : Value} {xs : List Item} (hs : a.eval s = v) (hown : Pl w w0.heap.size e k v xs) (hb : Below w0.heap.size w0 w)
    (u : Value) (y : Item) (hy : y.2.length + 1 = k) (hy1 : ∀ c ∈ y.2, c.oneCell' = true) (hu : Pv w u y.1) (ad : Addr) (c : Nat) (hx : a.eval x = .slice (some ad) 1 c) (hc : ∀ j z, (u :: y.2)[j]? = some z → w.cell? (ad.add j) = some z) (hN : xs.length + 1 ≤ 1000000000)
    (h : ∀ v' w', Pl w' w0.heap.size e k v' (xs ++ [y]) → Below w0.heap.size w0 w' → K (a.put o.dst v') w') :
    if Region.wanted o (yielded ops a.tmps) = true then Oper.wp P o a w K Q else E := by
  have hbytes : (xs.length + 1) * bytes ≤ 140737488355328 := Nat.le_trans (Nat.mul_le_mul hN hb64) (by decide)
  have hP := hown
  obtain ⟨-, -, vs, h3, h4⟩ := hP
  refine step_append_lies w hgd s x t ho w0.heap.size e i z k bytes ht hi hz hsize hby hzs hsz v xs.length (icells vs xs) hs h4 ad 1 c (u :: y.2) hx (by simp; omega) hc ?_ (by decide) (by unfold maxLen; omega) hbytes hb.size w.heap.size rfl ?_
  · intro c hc
    rcases List.mem_cons.1 hc with rfl | hc
    · exact hu.one
    · exact hy1 c hc
  · intro g cap w' h2 hg _ _
    refine h _ w' ?_ (hb.grown hg hb.size fun q hq => (h4.lt q hq).1)
    refine ⟨fun c hc => ?_, fun e => by simp at e, vs ++ [u], ?_, ?_⟩
    · rcases List.mem_append.1 hc with hc | hc
      · exact hown.1 c hc
      · rw [List.mem_singleton.1 hc]; exact hy
    · have e1 : Pvs w' vs xs := ⟨h3.1, fun i hi hv => (h3.2 i hi hv).kept hg (own_apart hown hsz (h3.2 i hi hv))⟩
      exact e1.append (Pvs.single (hu.kept hg (own_apart hown hsz hu)))
    · rw [icells_append h3.1, icells_one, List.length_append]
      exact h2
end Go.Proofs.YtlldjkhlhfnfeaaGreatDoor
