/- Walks: schema.fits, slices.EqualFunc at it, schema.match. Walks: schema.find, unknown, with what they hand to the library. -/
import Derived.BigQuiet
import Derived.BigGuard
import Derived.BigCall
import Derived.Lib.QuietBelow
import Derived.Test.YtjdknhalcpkeaaaGreatDoorJ16
namespace Sch
open Go Go.Lib Adr Mtr Tre
theorem match_drop {P Q : List ByteArray} {k : Nat} (hk : k < P.length) (hq : k < Q.length) : matchB (P.drop k) (Q.drop k) = (fitsB P[k] Q[k] && matchB (P.drop (k + 1)) (Q.drop (k + 1))) := by
 rw [List.drop_eq_getElem_cons hk, List.drop_eq_getElem_cons hq]; rfl
def Shw (P : List ByteArray) : Prop := ∀ s ∈ P, s.size ≤ 100000000
end Sch
namespace Go.Proofs.YtjdknhalcpkeaaaGreatDoor
open Go Go.RowKit Go.Sort Sch Adr Mtr Tre
theorem eq_bytes (a b : ByteArray) : (a.toList == b.toList) = decide (a = b) := bytes_eq_iff
set_option maxHeartbeats 1000000 in
theorem fits_any (p s : ByteArray) (w : World) (hE : Env w) (_hp : p.size ≤ 100000000) (hs : s.size ≤ 100000000) :
 Calls Tryz.prog 137 #[.string p, .string s] w fun e w' => e = .returned (.bool (fitsB p s)) ∧ Below w.heap.size w w' := by
 have HP : Hid (Calls Tryz.prog 97 #[.string p, .string ⟨#[36]⟩] w fun e w' => e = .returned (.bool (isType p)) ∧ w' = w) := Tryz.strings_HasPrefix p ⟨#[36]⟩ w
 have HT := Lib.hid (type_any p s w hE hs)
 have HF : Hid (fitsB p s = if isType p then typeB p s else decide (p = s)) := rfl
 have HQ := Lib.hid (eq_bytes p s)
 cases ht : isType p with
 | true =>
   have HK : Hid (fitsB p s = typeB p s) := by show _ = _; rw [HF.out, ht]; rfl
   rw [ht] at HP
   clear HF ht hE
   go_enter Tryz.func137, Tryz.ntmps137
   go_wp2_with fail
   refine HP.out.mono ?_
   rintro e w' ⟨rfl, rfl⟩
   clear HP
   go_wp2_with fail
   refine HT.out.mono ?_
   rintro e w' ⟨rfl, hb⟩
   clear HT
   go_wp2
   go_ret
   exact ⟨ret_bool HK.out.symm, hb⟩
 | false =>
   have HK : Hid (fitsB p s = decide (p = s)) := by show _ = _; rw [HF.out, ht]; rfl
   rw [ht] at HP
   clear HF ht hE HT
   go_enter Tryz.func137, Tryz.ntmps137
   go_wp2_with fail
   refine HP.out.mono ?_
   rintro e w' ⟨rfl, rfl⟩
   clear HP
   go_wp2
   go_ret
   exact ⟨ret_bool (by rw [HQ.out, HK.out]), Below.refl _ _⟩
set_option maxHeartbeats 2000000 in
set_option maxRecDepth 100000 in
theorem equalFits_any (A : Option Addr) (c : Nat) (P : List ByteArray) (A2 : Option Addr) (c2 : Nat) (Q : List ByteArray) (w : World) (hE : Env w) (hP : Rd w 1 A P.length (sv P)) (hQ : Rd w 1 A2 Q.length (sv Q)) (hpl : P.length ≤ 100000) (_hql : Q.length ≤ 100000) (hps : Shw P) (hqs : Shw Q) :
 Calls Tryz.prog 136 #[.slice A P.length c, .slice A2 Q.length c2, .func (.func 137) #[] #[]] w fun e w' => e = .returned (.bool (matchB P Q)) ∧ Below w.heap.size w w' := by
 have HP := Lib.hid hP
 have HQ := Lib.hid hQ
 have HE := Lib.hid hE
 have HPS := Lib.hid hps
 have HQS := Lib.hid hqs
 clear hP hQ hE hps hqs
 by_cases hl : P.length = Q.length
 · have hl1 : ((P.length : Int) != (Q.length : Int)) = false := by rw [hl]; simp
   have HM : Hid (matchB P Q = matchB (P.drop 0) (Q.drop 0)) := rfl
   have HL := Lib.hid hl
   clear hl
   go_enter Tryz.func136, Tryz.ntmps136
   go_wp2
   go_loopw [17] (fun vi wr => ∃ k : Nat, k ≤ P.length ∧ vi = .int .i64 k ∧ Hid (matchB P Q = matchB (P.drop k) (Q.drop k)) ∧ Hid (Below w.heap.size w wr)) (fun vi _ => P.length - (intOf vi).toNat)
   case atStart => exact ⟨0, Nat.zero_le _, rfl, HM, Below.refl _ _⟩
   case round =>
    clear HM
    obtain ⟨k, hk, rfl, HM, HB⟩ := hrel
    by_cases hlt : k < P.length
    · have hlq : k < Q.length := by have := HL.out; omega
      obtain ⟨B, O, rfl, hab, hadd, x0⟩ := (HP.out.below HB.out).strAt hlt
      obtain ⟨B2, O2, rfl, hab2, hadd2, y0⟩ := (HQ.out.below HB.out).strAt hlq
      have hst : Hid (matchB P Q = (fitsB P[k] Q[k] && matchB (P.drop (k + 1)) (Q.drop (k + 1)))) := HM.out.trans (match_drop hlt hlq)
      have HC := Lib.hid (fits_any P[k] Q[k] wr (HE.out.below HB.out) (HPS.out _ (List.getElem_mem hlt)) (HQS.out _ (List.getElem_mem hlq)))
      generalize P[k] = p at *
      generalize Q[k] = q at *
      clear HM
      cases hf : fitsB p q with
      | true =>
        rw [hf] at hst HC
        have HM2 : Hid (matchB P Q = matchB (P.drop (k + 1)) (Q.drop (k + 1))) := by show _ = _; rw [hst.out]; rfl
        clear hst hf
        go_wp2_with fail
        refine HC.out.mono ?_
        rintro e w2 ⟨rfl, hb2⟩
        have HB2 := Lib.hid (below_step HB.out hb2)
        clear HC HB hb2
        go_wp2_with fail
        go_roundw
        case rel => exact ⟨k + 1, by omega, by go_num, HM2, HB2⟩
        case measure => simp [intOf]; omega
      | false =>
        rw [hf] at hst HC
        have HM2 : Hid (matchB P Q = false) := by show _ = _; rw [hst.out]; rfl
        clear hst hf
        go_wp2_with fail
        refine HC.out.mono ?_
        rintro e w2 ⟨rfl, hb2⟩
        have HB2 := Lib.hid (below_step HB.out hb2)
        clear HC HB hb2
        go_wp2
        go_ret
        exact ⟨ret_bool HM2.out.symm, HB2.out⟩
    · obtain rfl : k = P.length := by omega
      have HM2 : Hid (matchB P Q = true) := by
       show _ = _
       rw [HM.out, List.drop_length, List.drop_eq_nil_of_le (by have := HL.out; omega)]; rfl
      clear HM
      go_wp2
      go_ret
      exact ⟨ret_bool HM2.out.symm, HB.out⟩
 · have hl1 : ((P.length : Int) != (Q.length : Int)) = true := by rw [bne_iff_ne]; omega
   have HM : Hid (matchB P Q = false) := match_short hl
   clear hl
   go_enter Tryz.func136, Tryz.ntmps136
   go_wp2
   go_ret
   exact ⟨ret_bool HM.out.symm, Below.refl _ _⟩
theorem match_any (A : Option Addr) (c : Nat) (P : List ByteArray) (A2 : Option Addr) (c2 : Nat) (Q : List ByteArray) (w : World) (hE : Env w) (hP : Rd w 1 A P.length (sv P)) (hQ : Rd w 1 A2 Q.length (sv Q)) (hpl : P.length ≤ 100000) (hql : Q.length ≤ 100000) (hps : Shw P) (hqs : Shw Q) :
 Calls Tryz.prog 94 #[.slice A P.length c, .slice A2 Q.length c2] w fun e w' => e = .returned (.bool (matchB P Q)) ∧ Below w.heap.size w w' := by
 have HC := Lib.hid (equalFits_any A c P A2 c2 Q w hE hP hQ hpl hql hps hqs)
 clear hP hQ hE hps hqs
 go_enter Tryz.func94, Tryz.ntmps94
 go_wp2_with fail
 refine HC.out.mono ?_
 rintro e w2 ⟨rfl, hb2⟩
 go_wp2
 go_ret
 exact ⟨rfl, hb2⟩
end Go.Proofs.YtjdknhalcpkeaaaGreatDoor
namespace Sch
open Go Go.Lib Adr Mtr Tre
def firstFrom (f : Rule → Bool) : Nat → List Rule → Int
 | _, [] => -1
 | k, r :: l => if f r then (k : Int) else firstFrom f (k + 1) l
theorem firstFrom_find {f : Rule → Bool} : ∀ (l : List Rule) (k : Nat), (firstFrom f k l = -1 ∧ l.find? f = none) ∨ (∃ j, ∃ h : j < l.length, firstFrom f k l = ((k + j : Nat) : Int) ∧ l.find? f = some l[j])
 | [], k => .inl ⟨rfl, rfl⟩
 | r :: l, k => by
   unfold firstFrom
   cases h : f r with
   | true => exact .inr ⟨0, by simp, by simp, by simp [h]⟩
   | false =>
     rcases firstFrom_find (f := f) l (k + 1) with ⟨h1, h2⟩ | ⟨j, hj, h1, h2⟩
     · exact .inl ⟨by simpa using h1, by simp [h, h2]⟩
     · exact .inr ⟨j + 1, by simpa using hj, by simp only [Bool.false_eq_true, if_false, h1]; congr 1; omega, by simp [h, h2]⟩
theorem firstFrom_any {f : Rule → Bool} (l : List Rule) (k : Nat) : decide (0 ≤ firstFrom f k l) = l.any f := by
 rcases firstFrom_find (f := f) l k with ⟨h1, h2⟩ | ⟨j, hj, h1, h2⟩
 · rw [h1]
   have : l.any f = false := by rw [List.any_eq_false]; intro x hx; have := List.find?_eq_none.1 h2 x hx; simpa using this
   rw [this]; decide
 · rw [h1]
   have : l.any f = true := by
    rw [List.any_eq_true]
    exact ⟨l[j], List.getElem_mem hj, List.find?_some h2⟩
   rw [this, decide_eq_true (by omega)]
theorem rules_short : ∀ r ∈ rulesB, Shw r.path := by
 have h : (rulesB.all fun r => r.path.all fun s => decide (s.size ≤ 100000000)) = true := by decide +kernel
 intro r hr s hs
 have := List.all_eq_true.1 h r hr
 simpa using List.all_eq_true.1 this s hs
theorem rules_path : ∀ r ∈ rulesB, 1 ≤ r.path.length ∧ r.path.length ≤ 4 := by
 have h : (rulesB.all fun r => decide (1 ≤ r.path.length) && decide (r.path.length ≤ 4)) = true := by decide +kernel
 intro r hr
 simpa using List.all_eq_true.1 h r hr
end Sch
namespace Go.Proofs.YtjdknhalcpkeaaaGreatDoor
open Go Go.RowKit Go.Sort Sch Adr Mtr Tre
def Rules (w : World) (A : Option Addr) : Prop := Pd w 3 A ritems
theorem ritems_get {i : Nat} (h : i < 34) : ∃ _hr : i < rulesB.length, ∃ hi : i < ritems.length, ritems[i] = ritem (rulesB[i]) := by
 have hl : rulesB.length = 34 := by decide +kernel
 refine ⟨by omega, by rw [ritems_len]; exact h, ?_⟩
 unfold ritems
 exact List.getElem_map _
theorem Rules.below {w w' : World} {A : Option Addr} (h : Rules w A) (hb : Below w.heap.size w w') : Rules w' A := Pd.below h hb
theorem Rules.one {w : World} {A : Option Addr} (h : Rules w A) {i : Nat} (hi : i < rulesB.length) :
 ∃ B O b c, A = some ⟨B, O, none⟩ ∧ B < w.heap.size ∧ (⟨B, O, none⟩ : Addr).add (i * 3) = ⟨B, O + i * 3, none⟩ ∧ rulesB[i].path.length ≤ c ∧ c ≤ maxLen ∧ Rd w 1 (some ⟨b, 0, none⟩) rulesB[i].path.length (sv rulesB[i].path)
   ∧ w.cell? ⟨B, O + i * 3, none⟩ = some (.slice (some ⟨b, 0, none⟩) rulesB[i].path.length c) ∧ w.cell? ⟨B, O + i * 3 + 1, none⟩ = some (.bool rulesB[i].one) ∧ w.cell? ⟨B, O + i * 3 + 2, none⟩ = some (.bool rulesB[i].needed) := by
 have hl : rulesB.length = 34 := by decide +kernel
 obtain ⟨hr, hi2, e⟩ := ritems_get (i := i) (by omega)
 obtain ⟨B, O, v, e1, hb, ha, hv, h0, hj⟩ := Pd.at h hi2
 rw [e] at hv hj
 obtain ⟨b, c, rfl, hc1, hc2, -, -, -, hrd⟩ := hv.slice
 exact ⟨B, O, b, c, e1, hb, ha, hc1, hc2, hrd, h0, hj 0 _ rfl, hj 1 _ rfl⟩
set_option maxHeartbeats 1000000 in
set_option maxRecDepth 100000 in
theorem find1_any (r : Rule) (b c pb : Nat) (A2 : Option Addr) (c2 : Nat) (P : List ByteArray) (w : World) (hE : Env w) (hr : r ∈ rulesB) (hR : Rd w 1 (some ⟨b, 0, none⟩) r.path.length (sv r.path)) (hc1 : w.cell? ⟨pb, 0, none⟩ = some (.slice A2 P.length c2)) (hP : Rd w 1 A2 P.length (sv P)) (hpl : P.length ≤ 100000) (hps : Shw P) :
 Calls Tryz.prog 93 #[.agg #[.slice (some ⟨b, 0, none⟩) r.path.length c, .bool r.one, .bool r.needed], .pointer (some ⟨pb, 0, none⟩)] w fun e w' => e = .returned (.bool (matchB r.path P)) ∧ Below w.heap.size w w' := by
 obtain ⟨w0, hw0⟩ : ∃ w0, w.alloc (.cells #[.slice (some ⟨b, 0, none⟩) r.path.length c, .bool r.one, .bool r.needed] 94) = w0 := ⟨_, rfl⟩
 have hb0 : Below w.heap.size w w0 := by rw [← hw0]; exact (Below.refl _ _).alloc (Nat.le_refl _) _
 have HC := Lib.hid (match_any (some ⟨b, 0, none⟩) c r.path A2 c2 P w0 (hE.below hb0) (hR.below hb0) (hP.below hb0) (by have := (rules_path r hr).2; omega) hpl (rules_short r hr) hps)
 have x0 : w0.cell? ⟨w.heap.size, 0, none⟩ = some (.slice (some ⟨b, 0, none⟩) r.path.length c) := by rw [← hw0, World.cell?_alloc_at _ _ _ _ rfl]; rfl
 have y0 : w0.cell? ⟨pb, 0, none⟩ = some (.slice A2 P.length c2) := (hb0.cell (p := ⟨pb, 0, none⟩) (Lib.lt_of_cell hc1)).trans hc1
 have HB := Lib.hid hb0
 clear hE hR hP hc1 hb0 hps
 go_enter Tryz.func93, Tryz.ntmps93
 go_wp2_with fail
 refine HC.out.mono ?_
 rintro e w2 ⟨rfl, hb2⟩
 go_wp2
 go_ret
 exact ⟨rfl, below_step HB.out hb2⟩
theorem rulesB_len : rulesB.length = 34 := by decide +kernel
theorem first_drop {f : Rule → Bool} {L : List Rule} {k : Nat} (h : k < L.length) : firstFrom f k (L.drop k) = if f L[k] then (k : Int) else firstFrom f (k + 1) (L.drop (k + 1)) := by
 rw [List.drop_eq_getElem_cons h]; rfl
def RuleOk1 (p : Value) (f : Rule → Bool) (w : World) : Prop := ∀ W, Below w.heap.size w W → ∀ r ∈ rulesB, ∀ b c, r.path.length ≤ c → c ≤ maxLen → Rd W 1 (some ⟨b, 0, none⟩) r.path.length (sv r.path) →
 Calls Tryz.prog 93 #[.agg #[.slice (some ⟨b, 0, none⟩) r.path.length c, .bool r.one, .bool r.needed], p] W fun e w' => e = .returned (.bool (f r)) ∧ Below W.heap.size W w'
set_option maxHeartbeats 2000000 in
set_option maxRecDepth 100000 in
theorem index1_any (p : Value) (f : Rule → Bool) (A : Option Addr) (c : Nat) (w : World) (hR : Rules w A) (hF : RuleOk1 p f w) :
 Calls Tryz.prog 92 #[.slice A 34 c, .func (.func 93) #[] #[p]] w fun e w' => e = .returned (.int .i64 (firstFrom f 0 rulesB)) ∧ Below w.heap.size w w' := by
 have HR := Lib.hid hR
 have HF := Lib.hid hF
 have HL := Lib.hid rulesB_len
 have HQ0 : Hid (firstFrom f 0 rulesB = firstFrom f 0 (rulesB.drop 0)) := rfl
 clear hR hF
 go_enter Tryz.func92, Tryz.ntmps92
 go_wp2
 go_loopw [8] (fun vi wr => ∃ k : Nat, k ≤ 34 ∧ vi = .int .i64 k ∧ Hid (firstFrom f 0 rulesB = firstFrom f k (rulesB.drop k)) ∧ Hid (Below w.heap.size w wr)) (fun vi _ => 34 - (intOf vi).toNat)
 case atStart => exact ⟨0, Nat.zero_le _, rfl, HQ0, Below.refl _ _⟩
 case round =>
  clear HQ0
  obtain ⟨k, hk, rfl, HQ, HB⟩ := hrel
  by_cases hlt : k < 34
  · have hlr : k < rulesB.length := by rw [HL.out]; exact hlt
    obtain ⟨B, O, b, cc, rfl, hab, hadd, hc1, hc2, hrd, x0, x1, x2⟩ := (HR.out.below HB.out).one hlr
    have HC := Lib.hid (HF.out wr HB.out _ (List.getElem_mem hlr) b cc hc1 hc2 hrd)
    have hst : Hid (firstFrom f 0 rulesB = if f rulesB[k] then (k : Int) else firstFrom f (k + 1) (rulesB.drop (k + 1))) := HQ.out.trans (first_drop hlr)
    generalize rulesB[k] = r at *
    clear HQ hc1 hc2 hrd
    cases hf : f r with
    | true =>
      rw [hf] at hst HC
      have HK : Hid (firstFrom f 0 rulesB = (k : Int)) := by show _ = _; rw [hst.out]; rfl
      clear hst hf
      go_wp2_with fail
      refine HC.out.mono ?_
      rintro e w2 ⟨rfl, hb2⟩
      have HB2 := Lib.hid (below_step HB.out hb2)
      clear HC HB hb2 x0 x1 x2
      go_wp2
      go_ret
      exact ⟨ret_int HK.out.symm, HB2.out⟩
    | false =>
      rw [hf] at hst HC
      have HK : Hid (firstFrom f 0 rulesB = firstFrom f (k + 1) (rulesB.drop (k + 1))) := by show _ = _; rw [hst.out]; rfl
      clear hst hf
      go_wp2_with fail
      refine HC.out.mono ?_
      rintro e w2 ⟨rfl, hb2⟩
      have HB2 := Lib.hid (below_step HB.out hb2)
      clear HC HB hb2 x0 x1 x2
      go_wp2_with fail
      go_roundw
      case rel => exact ⟨k + 1, by omega, by go_num, HK, HB2⟩
      case measure => simp [intOf]; omega
  · obtain rfl : k = 34 := by omega
    have HK : Hid (firstFrom f 0 rulesB = -1) := by
     show _ = _
     rw [HQ.out, List.drop_eq_nil_of_le (by rw [HL.out]; exact Nat.le_refl _)]; rfl
    clear HQ
    go_wp2
    go_ret
    exact ⟨ret_int HK.out.symm, HB.out⟩
def RuleOk2 (p q : Value) (f : Rule → Bool) (w : World) : Prop := ∀ W, Below w.heap.size w W → ∀ r ∈ rulesB, ∀ b c, r.path.length ≤ c → c ≤ maxLen → Rd W 1 (some ⟨b, 0, none⟩) r.path.length (sv r.path) →
 Calls Tryz.prog 96 #[.agg #[.slice (some ⟨b, 0, none⟩) r.path.length c, .bool r.one, .bool r.needed], p, q] W fun e w' => e = .returned (.bool (f r)) ∧ Below W.heap.size W w'
set_option maxHeartbeats 2000000 in
set_option maxRecDepth 100000 in
theorem index2_any (p q : Value) (f : Rule → Bool) (A : Option Addr) (c : Nat) (w : World) (hR : Rules w A) (hF : RuleOk2 p q f w) :
 Calls Tryz.prog 92 #[.slice A 34 c, .func (.func 96) #[] #[p, q]] w fun e w' => e = .returned (.int .i64 (firstFrom f 0 rulesB)) ∧ Below w.heap.size w w' := by
 have HR := Lib.hid hR
 have HF := Lib.hid hF
 have HL := Lib.hid rulesB_len
 have HQ0 : Hid (firstFrom f 0 rulesB = firstFrom f 0 (rulesB.drop 0)) := rfl
 clear hR hF
 go_enter Tryz.func92, Tryz.ntmps92
 go_wp2
 go_loopw [8] (fun vi wr => ∃ k : Nat, k ≤ 34 ∧ vi = .int .i64 k ∧ Hid (firstFrom f 0 rulesB = firstFrom f k (rulesB.drop k)) ∧ Hid (Below w.heap.size w wr)) (fun vi _ => 34 - (intOf vi).toNat)
 case atStart => exact ⟨0, Nat.zero_le _, rfl, HQ0, Below.refl _ _⟩
 case round =>
  clear HQ0
  obtain ⟨k, hk, rfl, HQ, HB⟩ := hrel
  by_cases hlt : k < 34
  · have hlr : k < rulesB.length := by rw [HL.out]; exact hlt
    obtain ⟨B, O, b, cc, rfl, hab, hadd, hc1, hc2, hrd, x0, x1, x2⟩ := (HR.out.below HB.out).one hlr
    have HC := Lib.hid (HF.out wr HB.out _ (List.getElem_mem hlr) b cc hc1 hc2 hrd)
    have hst : Hid (firstFrom f 0 rulesB = if f rulesB[k] then (k : Int) else firstFrom f (k + 1) (rulesB.drop (k + 1))) := HQ.out.trans (first_drop hlr)
    generalize rulesB[k] = r at *
    clear HQ hc1 hc2 hrd
    cases hf : f r with
    | true =>
      rw [hf] at hst HC
      have HK : Hid (firstFrom f 0 rulesB = (k : Int)) := by show _ = _; rw [hst.out]; rfl
      clear hst hf
      go_wp2_with fail
      refine HC.out.mono ?_
      rintro e w2 ⟨rfl, hb2⟩
      have HB2 := Lib.hid (below_step HB.out hb2)
      clear HC HB hb2 x0 x1 x2
      go_wp2
      go_ret
      exact ⟨ret_int HK.out.symm, HB2.out⟩
    | false =>
      rw [hf] at hst HC
      have HK : Hid (firstFrom f 0 rulesB = firstFrom f (k + 1) (rulesB.drop (k + 1))) := by show _ = _; rw [hst.out]; rfl
      clear hst hf
      go_wp2_with fail
      refine HC.out.mono ?_
      rintro e w2 ⟨rfl, hb2⟩
      have HB2 := Lib.hid (below_step HB.out hb2)
      clear HC HB hb2 x0 x1 x2
      go_wp2_with fail
      go_roundw
      case rel => exact ⟨k + 1, by omega, by go_num, HK, HB2⟩
      case measure => simp [intOf]; omega
  · obtain rfl : k = 34 := by omega
    have HK : Hid (firstFrom f 0 rulesB = -1) := by
     show _ = _
     rw [HQ.out, List.drop_eq_nil_of_le (by rw [HL.out]; exact Nat.le_refl _)]; rfl
    clear HQ
    go_wp2
    go_ret
    exact ⟨ret_int HK.out.symm, HB.out⟩
theorem rd_set {w : World} {k n b g : Nat} {xs : List Value} (h : Rd w k (some ⟨b, 0, none⟩) n xs) (hne : b ≠ g) (o : Nat) (v : Value) : Rd (w.setCell ⟨g, o, none⟩ v) k (some ⟨b, 0, none⟩) n xs :=
 ⟨h.1, fun hn => by
  obtain ⟨ad, e, hb, hx⟩ := h.2 hn
  injection e with e
  subst e
  exact ⟨_, rfl, by simpa using hb, fun j u hu => by
   rw [add_plain, World.cell?_setCell_other _ _ _ _ (by intro e'; simp only [Addr.mk.injEq] at e'; omega)]
   have := hx j u hu
   rwa [add_plain] at this⟩⟩
def FindEnd (P : List ByteArray) (w : World) (e : Ending) (w' : World) : Prop :=
 ((ruleOf P = none ∧ e = .returned (.tuple #[.agg #[.slice none 0 0, .bool false, .bool false], .bool false])) ∨
  (∃ r b c, ruleOf P = some r ∧ r ∈ rulesB ∧ e = .returned (.tuple #[.agg #[.slice (some ⟨b, 0, none⟩) r.path.length c, .bool r.one, .bool r.needed], .bool true]) ∧ r.path.length ≤ c ∧ c ≤ maxLen ∧ Rd w' 1 (some ⟨b, 0, none⟩) r.path.length (sv r.path))) ∧ Below w.heap.size w w'
set_option maxHeartbeats 2000000 in
set_option maxRecDepth 100000 in
theorem find_any (A : Option Addr) (c : Nat) (A2 : Option Addr) (c2 : Nat) (P : List ByteArray) (w : World) (hE : Env w) (hR : Rules w A) (hP : Rd w 1 A2 P.length (sv P)) (hpl : P.length ≤ 100000) (hps : Shw P) :
 Calls Tryz.prog 57 #[.slice A 34 c, .slice A2 P.length c2] w (FindEnd P w) := by
 obtain ⟨w0, hw0⟩ : ∃ w0, (w.alloc (.cells #[.slice A2 P.length c2] 42)).alloc (.cells #[.slice none 0 0, .bool false, .bool false] 94) = w0 := ⟨_, rfl⟩
 have hb0 : Below w.heap.size w w0 := by rw [← hw0]; exact ((Below.refl _ _).alloc (Nat.le_refl _) _).alloc (by simp) _
 have y0 : w0.cell? ⟨w.heap.size, 0, none⟩ = some (.slice A2 P.length c2) := by
  rw [← hw0, World.cell?_alloc_lt _ _ _ (by simp), World.cell?_alloc_at _ _ _ _ rfl]; rfl
 have z0 : ∀ j, j < 3 → w0.cell? ⟨w.heap.size + 1, j, none⟩ = (#[Value.slice none 0 0, .bool false, .bool false] : Array Value)[j]? := fun j hj => by
  rw [← hw0, World.cell?_alloc_at _ _ _ _ (by simp)]
 have zf : ∀ j, w0.frozen? ⟨w.heap.size + 1, j, none⟩ = false := fun j => by
  rw [← hw0]; simp
 have hsz : w0.heap.size = w.heap.size + 2 := by rw [← hw0]; simp
 obtain ⟨wb, hwb⟩ : ∃ wb, w.heap.size = wb := ⟨_, rfl⟩
 have HIx := Lib.hid (index1_any (.pointer (some ⟨wb, 0, none⟩)) (fun r => matchB r.path P) A c w0 (hR.below hb0) (fun W hbW r hr b c hc1 hc2 hrd => by
  have hbw := below_step hb0 hbW
  exact find1_any r b c wb A2 c2 P W (hE.below hbw) hr hrd ((hbW.cell (p := ⟨wb, 0, none⟩) (by show wb < _; rw [hsz, hwb]; omega)).trans (by rw [← hwb]; exact y0)) (hP.below hbw) hpl hps))
 have HR : Hid (Rules w0 A) := hR.below hb0
 have HB := Lib.hid hb0
 have HZ := Lib.hid z0
 have HZF := Lib.hid zf
 have HSZ := Lib.hid hsz
 have HWB := Lib.hid hwb
 have HX : Hid (ruleOf P = rulesB.find? fun r => matchB r.path P) := rfl
 have HFF := Lib.hid (firstFrom_find (f := fun r => matchB r.path P) rulesB 0)
 clear hE hR hP hps hb0 y0 z0 zf hsz
 generalize firstFrom (fun r => matchB r.path P) 0 rulesB = ff at *
 go_enter Tryz.func57, Tryz.ntmps57
 rcases HFF.out with ⟨h1, h2⟩ | ⟨j, hj, h1, h2⟩
 · subst h1
   have HN : Hid (ruleOf P = none) := by show _ = _; rw [HX.out, h2]
   clear h2 HX
   go_wp2_with fail
   refine HIx.out.mono ?_
   rintro e w2 ⟨rfl, hb2⟩
   have hlt : wb + 1 < w0.heap.size := by rw [HSZ.out, HWB.out]; omega
   have c0 : w2.cell? ⟨wb + 1, 0, none⟩ = some (.slice none 0 0) := (hb2.cell (p := ⟨wb + 1, 0, none⟩) hlt).trans (by rw [← HWB.out, HZ.out 0 (by omega)]; rfl)
   have c1 : w2.cell? ⟨wb + 1, 1, none⟩ = some (.bool false) := (hb2.cell (p := ⟨wb + 1, 1, none⟩) hlt).trans (by rw [← HWB.out, HZ.out 1 (by omega)]; rfl)
   have c2 : w2.cell? ⟨wb + 1, 2, none⟩ = some (.bool false) := (hb2.cell (p := ⟨wb + 1, 2, none⟩) hlt).trans (by rw [← HWB.out, HZ.out 2 (by omega)]; rfl)
   have zf : ∀ o, w2.frozen? ⟨wb + 1, o, none⟩ = false := fun o => (hb2.frozen (p := ⟨wb + 1, o, none⟩) hlt).trans (by rw [← HWB.out]; exact HZF.out o)
   have hB : Hid (Below w.heap.size w w2) := below_step HB.out hb2
   clear HIx HFF HZ HZF HR hb2 HB
   go_wp2
   refine bodyPost_ret (v := .tuple #[.agg #[.slice none 0 0, .bool false, .bool false], .bool false]) (by simp [results, Tryz.results57, go_sem, c0, c1, c2]) rfl ⟨.inl ⟨HN.out, rfl⟩, ?_⟩
   repeat (first | exact hB.out | refine Below.setCell ?_ (by show w.heap.size ≤ wb + 1; rw [HWB.out]; omega) _)
 · have hlr : j < rulesB.length := hj
   have HN : Hid (ruleOf P = some rulesB[j]) := by show _ = _; rw [HX.out, h2]
   have hmem := List.getElem_mem hlr
   have hj34 : j < 34 := by rw [rulesB_len] at hj; exact hj
   rw [Nat.zero_add] at h1
   subst h1
   clear h2 HX hj
   go_wp2_with fail
   refine HIx.out.mono ?_
   rintro e w2 ⟨rfl, hb2⟩
   have hlt : wb + 1 < w0.heap.size := by rw [HSZ.out, HWB.out]; omega
   have c0 : w2.cell? ⟨wb + 1, 0, none⟩ = some (.slice none 0 0) := (hb2.cell (p := ⟨wb + 1, 0, none⟩) hlt).trans (by rw [← HWB.out, HZ.out 0 (by omega)]; rfl)
   have c1 : w2.cell? ⟨wb + 1, 1, none⟩ = some (.bool false) := (hb2.cell (p := ⟨wb + 1, 1, none⟩) hlt).trans (by rw [← HWB.out, HZ.out 1 (by omega)]; rfl)
   have c2 : w2.cell? ⟨wb + 1, 2, none⟩ = some (.bool false) := (hb2.cell (p := ⟨wb + 1, 2, none⟩) hlt).trans (by rw [← HWB.out, HZ.out 2 (by omega)]; rfl)
   have zf : ∀ o, w2.frozen? ⟨wb + 1, o, none⟩ = false := fun o => (hb2.frozen (p := ⟨wb + 1, o, none⟩) hlt).trans (by rw [← HWB.out]; exact HZF.out o)
   have hB : Hid (Below w.heap.size w w2) := below_step HB.out hb2
   obtain ⟨B, O, b, cc, rfl, hab, hadd, hc1, hc2, hrd, x0, x1, x2⟩ := (HR.out.below hb2).one hlr
   have hrl := rules_path _ hmem
   obtain ⟨g0, hg0, hrd0⟩ := hrd.2 (by omega)
   have hbb : b < w2.heap.size := by injection hg0 with e; subst e; exact hrd0.1
   have hbne : b ≠ wb + 1 := by
    rintro rfl
    have hc := hrd0.2 0 _ (sv_get (by omega))
    injection hg0 with e
    subst e
    rw [add_plain, c0] at hc
    cases hc
   have HRD : Hid (Rd w2 1 (some ⟨b, 0, none⟩) rulesB[j].path.length (sv rulesB[j].path)) := hrd
   have HC1 := Lib.hid hc1
   have HC2 := Lib.hid hc2
   have HBN := Lib.hid hbne
   clear HIx HFF HZ HZF HR hb2 HB hrd hrd0 hg0 hc1 hc2 hrl hbne
   generalize rulesB[j] = r at *
   go_wp2
   refine bodyPost_ret (v := .tuple #[.agg #[.slice (some ⟨b, 0, none⟩) r.path.length cc, .bool r.one, .bool r.needed], .bool true]) (by simp [results, Tryz.results57, go_sem, c0, c1, c2]) rfl ⟨.inr ⟨r, b, cc, HN.out, hmem, rfl, HC1.out, HC2.out, ?_⟩, ?_⟩
   · exact rd_set (rd_set (rd_set HRD.out HBN.out _ _) HBN.out _ _) HBN.out _ _
   · repeat (first | exact hB.out | refine Below.setCell ?_ (by show w.heap.size ≤ wb + 1; rw [HWB.out]; omega) _)
end Go.Proofs.YtjdknhalcpkeaaaGreatDoor
