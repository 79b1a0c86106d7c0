/- Walks: schema.find, unknown, with what they hand to the library. Walks: schema.unknown, needs, Needs. -/
import Derived.BigQuiet
import Derived.BigGuard
import Derived.BigCall
import Derived.Lib.QuietBelow
import Derived.Test.YtlldjkhlhfnfeaaGreatDoorGj
namespace Sch
open Go Go.Lib Adr Mtr Tre
/-- The first place from k on whose statement meets a test, n places. -/
def firstFrom (f : Rule → Bool) : Nat → List Rule → Int
  | _, [] => -1
  | k, r :: l => if f r then (k : Int) else firstFrom f (k + 1) l
theorem firstFrom_find {f : Rule → Bool} : ∀ (l : List Rule) (k : Nat), (firstFrom f k l = -1 ∧ l.find? f = none) ∨ (∃ j, ∃ h : j < l.length, firstFrom f k l = ((k + j : Nat) : Int) ∧ l.find? f = some l[j])
  | [], k => .inl ⟨rfl, rfl⟩
  | r :: l, k => by
    unfold firstFrom
    cases h : f r with
    | true => exact .inr ⟨0, by simp, by simp, by simp [h]⟩
    | false =>
      rcases firstFrom_find (f := f) l (k + 1) with ⟨h1, h2⟩ | ⟨j, hj, h1, h2⟩
      · exact .inl ⟨by simpa using h1, by simp [h, h2]⟩
      · exact .inr ⟨j + 1, by simpa using hj, by simp only [Bool.false_eq_true, if_false, h1]; congr 1; omega, by simp [h, h2]⟩
theorem firstFrom_any {f : Rule → Bool} (l : List Rule) (k : Nat) : decide (0 ≤ firstFrom f k l) = l.any f := by
  rcases firstFrom_find (f := f) l k with ⟨h1, h2⟩ | ⟨j, hj, h1, h2⟩
  · rw [h1]
    have : l.any f = false := by rw [List.any_eq_false]; intro x hx; have := List.find?_eq_none.1 h2 x hx; simpa using this
    rw [this]; decide
  · rw [h1]
    have : l.any f = true := by
      rw [List.any_eq_true]
      exact ⟨l[j], List.getElem_mem hj, List.find?_some h2⟩
    rw [this, decide_eq_true (by omega)]
theorem rules_short : ∀ r ∈ rulesB, Shw r.path := by
  have h : (rulesB.all fun r => r.path.all fun s => decide (s.size ≤ 100000000)) = true := by decide +kernel
  intro r hr s hs
  have := List.all_eq_true.1 h r hr
  simpa using List.all_eq_true.1 this s hs
theorem rules_path : ∀ r ∈ rulesB, 1 ≤ r.path.length ∧ r.path.length ≤ 4 := by
  have h : (rulesB.all fun r => decide (1 ≤ r.path.length) && decide (r.path.length ≤ 4)) = true := by decide +kernel
  intro r hr
  simpa using List.all_eq_true.1 h r hr
end Sch
namespace Go.Proofs.YtlldjkhlhfnfeaaGreatDoor
open Go Go.RowKit Go.Sort Sch Adr Mtr Tre

/-- The statements in memory. -/
def Rules (w : World) (A : Option Addr) : Prop := Pd w 3 A ritems
theorem ritems_get {i : Nat} (h : i < 34) : ∃ _hr : i < rulesB.length, ∃ hi : i < ritems.length, ritems[i] = ritem (rulesB[i]) := by
  have hl : rulesB.length = 34 := by decide +kernel
  refine ⟨by omega, by rw [ritems_len]; exact h, ?_⟩
  unfold ritems
  exact List.getElem_map _
/-- One of them. -/
theorem Rules.below {w w' : World} {A : Option Addr} (h : Rules w A) (hb : Below w.heap.size w w') : Rules w' A := Pd.below h hb
theorem Rules.one {w : World} {A : Option Addr} (h : Rules w A) {i : Nat} (hi : i < rulesB.length) :
    ∃ B O b c, A = some ⟨B, O, none⟩ ∧ B < w.heap.size ∧ (⟨B, O, none⟩ : Addr).add (i * 3) = ⟨B, O + i * 3, none⟩ ∧ rulesB[i].path.length ≤ c ∧ c ≤ maxLen ∧ Rd w 1 (some ⟨b, 0, none⟩) rulesB[i].path.length (sv rulesB[i].path)
      ∧ w.cell? ⟨B, O + i * 3, none⟩ = some (.slice (some ⟨b, 0, none⟩) rulesB[i].path.length c) ∧ w.cell? ⟨B, O + i * 3 + 1, none⟩ = some (.bool rulesB[i].one) ∧ w.cell? ⟨B, O + i * 3 + 2, none⟩ = some (.bool rulesB[i].needed) := by
  have hl : rulesB.length = 34 := by decide +kernel
  obtain ⟨hr, hi2, e⟩ := ritems_get (i := i) (by omega)
  obtain ⟨B, O, v, e1, hb, ha, hv, h0, hj⟩ := Pd.at h hi2
  rw [e] at hv hj
  obtain ⟨b, c, rfl, hc1, hc2, -, -, -, hrd⟩ := hv.slice
  exact ⟨B, O, b, c, e1, hb, ha, hc1, hc2, hrd, h0, hj 0 _ rfl, hj 1 _ rfl⟩

set_option maxHeartbeats 1000000 in
set_option maxRecDepth 100000 in
theorem find1_any (r : Rule) (b c pb : Nat) (A2 : Option Addr) (c2 : Nat) (P : List ByteArray) (w : World) (hE : Env w) (hr : r ∈ rulesB) (hR : Rd w 1 (some ⟨b, 0, none⟩) r.path.length (sv r.path)) (hc1 : w.cell? ⟨pb, 0, none⟩ = some (.slice A2 P.length c2)) (hP : Rd w 1 A2 P.length (sv P)) (hpl : P.length ≤ 100000) (hps : Shw P) :
    Calls Tryz.prog 81 #[.agg #[.slice (some ⟨b, 0, none⟩) r.path.length c, .bool r.one, .bool r.needed], .pointer (some ⟨pb, 0, none⟩)] w fun e w' => e = .returned (.bool (matchB r.path P)) ∧ Below w.heap.size w w' := by
  obtain ⟨w0, hw0⟩ : ∃ w0, w.alloc (.cells #[.slice (some ⟨b, 0, none⟩) r.path.length c, .bool r.one, .bool r.needed] 74) = w0 := ⟨_, rfl⟩
  have hb0 : Below w.heap.size w w0 := by rw [← hw0]; exact (Below.refl _ _).alloc (Nat.le_refl _) _
  have HC := Lib.hid (match_any (some ⟨b, 0, none⟩) c r.path A2 c2 P w0 (hE.below hb0) (hR.below hb0) (hP.below hb0) (by have := (rules_path r hr).2; omega) hpl (rules_short r hr) hps)
  have x0 : w0.cell? ⟨w.heap.size, 0, none⟩ = some (.slice (some ⟨b, 0, none⟩) r.path.length c) := by rw [← hw0, World.cell?_alloc_at _ _ _ _ rfl]; rfl
  have y0 : w0.cell? ⟨pb, 0, none⟩ = some (.slice A2 P.length c2) := (hb0.cell (p := ⟨pb, 0, none⟩) (Lib.lt_of_cell hc1)).trans hc1
  have HB := Lib.hid hb0
  clear hE hR hP hc1 hb0 hps
  go_enter Tryz.func81, Tryz.ntmps81
  go_wp2_with fail
  refine HC.out.mono ?_
  rintro e w2 ⟨rfl, hb2⟩
  go_wp2
  go_ret
  exact ⟨rfl, below_step HB.out hb2⟩
/-! The library's loops. -/
theorem rulesB_len : rulesB.length = 34 := by decide +kernel
theorem first_drop {f : Rule → Bool} {L : List Rule} {k : Nat} (h : k < L.length) : firstFrom f k (L.drop k) = if f L[k] then (k : Int) else firstFrom f (k + 1) (L.drop (k + 1)) := by
  rw [List.drop_eq_getElem_cons h]; rfl
/-- A test of a statement, with 1 captured. -/
def RuleOk1 (p : Value) (f : Rule → Bool) (w : World) : Prop := ∀ W, Below w.heap.size w W → ∀ r ∈ rulesB, ∀ b c, r.path.length ≤ c → c ≤ maxLen → Rd W 1 (some ⟨b, 0, none⟩) r.path.length (sv r.path) →
  Calls Tryz.prog 81 #[.agg #[.slice (some ⟨b, 0, none⟩) r.path.length c, .bool r.one, .bool r.needed], p] W fun e w' => e = .returned (.bool (f r)) ∧ Below W.heap.size W w'
set_option maxHeartbeats 2000000 in
set_option maxRecDepth 100000 in
theorem index1_any (p : Value) (f : Rule → Bool) (A : Option Addr) (c : Nat) (w : World) (hR : Rules w A) (hF : RuleOk1 p f w) :
    Calls Tryz.prog 80 #[.slice A 34 c, .func (.func 81) #[] #[p]] w fun e w' => e = .returned (.int .i64 (firstFrom f 0 rulesB)) ∧ Below w.heap.size w w' := by
  have HR := Lib.hid hR
  have HF := Lib.hid hF
  have HL := Lib.hid rulesB_len
  have HQ0 : Hid (firstFrom f 0 rulesB = firstFrom f 0 (rulesB.drop 0)) := rfl
  clear hR hF
  go_enter Tryz.func80, Tryz.ntmps80
  go_wp2
  go_loopw [8] (fun vi wr => ∃ k : Nat, k ≤ 34 ∧ vi = .int .i64 k ∧ Hid (firstFrom f 0 rulesB = firstFrom f k (rulesB.drop k)) ∧ Hid (Below w.heap.size w wr)) (fun vi _ => 34 - (intOf vi).toNat)
  case atStart => exact ⟨0, Nat.zero_le _, rfl, HQ0, Below.refl _ _⟩
  case round =>
    clear HQ0
    obtain ⟨k, hk, rfl, HQ, HB⟩ := hrel
    by_cases hlt : k < 34
    · have hlr : k < rulesB.length := by rw [HL.out]; exact hlt
      obtain ⟨B, O, b, cc, rfl, hab, hadd, hc1, hc2, hrd, x0, x1, x2⟩ := (HR.out.below HB.out).one hlr
      have HC := Lib.hid (HF.out wr HB.out _ (List.getElem_mem hlr) b cc hc1 hc2 hrd)
      have hst : Hid (firstFrom f 0 rulesB = if f rulesB[k] then (k : Int) else firstFrom f (k + 1) (rulesB.drop (k + 1))) := HQ.out.trans (first_drop hlr)
      generalize rulesB[k] = r at *
      clear HQ hc1 hc2 hrd
      cases hf : f r with
      | true =>
        rw [hf] at hst HC
        have HK : Hid (firstFrom f 0 rulesB = (k : Int)) := by show _ = _; rw [hst.out]; rfl
        clear hst hf
        go_wp2_with fail
        refine HC.out.mono ?_
        rintro e w2 ⟨rfl, hb2⟩
        have HB2 := Lib.hid (below_step HB.out hb2)
        clear HC HB hb2 x0 x1 x2
        go_wp2
        go_ret
        exact ⟨ret_int HK.out.symm, HB2.out⟩
      | false =>
        rw [hf] at hst HC
        have HK : Hid (firstFrom f 0 rulesB = firstFrom f (k + 1) (rulesB.drop (k + 1))) := by show _ = _; rw [hst.out]; rfl
        clear hst hf
        go_wp2_with fail
        refine HC.out.mono ?_
        rintro e w2 ⟨rfl, hb2⟩
        have HB2 := Lib.hid (below_step HB.out hb2)
        clear HC HB hb2 x0 x1 x2
        go_wp2_with fail
        go_roundw
        case rel => exact ⟨k + 1, by omega, by go_num, HK, HB2⟩
        case measure => simp [intOf]; omega
    · obtain rfl : k = 34 := by omega
      have HK : Hid (firstFrom f 0 rulesB = -1) := by
        show _ = _
        rw [HQ.out, List.drop_eq_nil_of_le (by rw [HL.out]; exact Nat.le_refl _)]; rfl
      clear HQ
      go_wp2
      go_ret
      exact ⟨ret_int HK.out.symm, HB.out⟩
/-- A test of a statement, with 2 captured. -/
def RuleOk2 (p q : Value) (f : Rule → Bool) (w : World) : Prop := ∀ W, Below w.heap.size w W → ∀ r ∈ rulesB, ∀ b c, r.path.length ≤ c → c ≤ maxLen → Rd W 1 (some ⟨b, 0, none⟩) r.path.length (sv r.path) →
  Calls Tryz.prog 84 #[.agg #[.slice (some ⟨b, 0, none⟩) r.path.length c, .bool r.one, .bool r.needed], p, q] W fun e w' => e = .returned (.bool (f r)) ∧ Below W.heap.size W w'
set_option maxHeartbeats 2000000 in
set_option maxRecDepth 100000 in
theorem index2_any (p q : Value) (f : Rule → Bool) (A : Option Addr) (c : Nat) (w : World) (hR : Rules w A) (hF : RuleOk2 p q f w) :
    Calls Tryz.prog 80 #[.slice A 34 c, .func (.func 84) #[] #[p, q]] w fun e w' => e = .returned (.int .i64 (firstFrom f 0 rulesB)) ∧ Below w.heap.size w w' := by
  have HR := Lib.hid hR
  have HF := Lib.hid hF
  have HL := Lib.hid rulesB_len
  have HQ0 : Hid (firstFrom f 0 rulesB = firstFrom f 0 (rulesB.drop 0)) := rfl
  clear hR hF
  go_enter Tryz.func80, Tryz.ntmps80
  go_wp2
  go_loopw [8] (fun vi wr => ∃ k : Nat, k ≤ 34 ∧ vi = .int .i64 k ∧ Hid (firstFrom f 0 rulesB = firstFrom f k (rulesB.drop k)) ∧ Hid (Below w.heap.size w wr)) (fun vi _ => 34 - (intOf vi).toNat)
  case atStart => exact ⟨0, Nat.zero_le _, rfl, HQ0, Below.refl _ _⟩
  case round =>
    clear HQ0
    obtain ⟨k, hk, rfl, HQ, HB⟩ := hrel
    by_cases hlt : k < 34
    · have hlr : k < rulesB.length := by rw [HL.out]; exact hlt
      obtain ⟨B, O, b, cc, rfl, hab, hadd, hc1, hc2, hrd, x0, x1, x2⟩ := (HR.out.below HB.out).one hlr
      have HC := Lib.hid (HF.out wr HB.out _ (List.getElem_mem hlr) b cc hc1 hc2 hrd)
      have hst : Hid (firstFrom f 0 rulesB = if f rulesB[k] then (k : Int) else firstFrom f (k + 1) (rulesB.drop (k + 1))) := HQ.out.trans (first_drop hlr)
      generalize rulesB[k] = r at *
      clear HQ hc1 hc2 hrd
      cases hf : f r with
      | true =>
        rw [hf] at hst HC
        have HK : Hid (firstFrom f 0 rulesB = (k : Int)) := by show _ = _; rw [hst.out]; rfl
        clear hst hf
        go_wp2_with fail
        refine HC.out.mono ?_
        rintro e w2 ⟨rfl, hb2⟩
        have HB2 := Lib.hid (below_step HB.out hb2)
        clear HC HB hb2 x0 x1 x2
        go_wp2
        go_ret
        exact ⟨ret_int HK.out.symm, HB2.out⟩
      | false =>
        rw [hf] at hst HC
        have HK : Hid (firstFrom f 0 rulesB = firstFrom f (k + 1) (rulesB.drop (k + 1))) := by show _ = _; rw [hst.out]; rfl
        clear hst hf
        go_wp2_with fail
        refine HC.out.mono ?_
        rintro e w2 ⟨rfl, hb2⟩
        have HB2 := Lib.hid (below_step HB.out hb2)
        clear HC HB hb2 x0 x1 x2
        go_wp2_with fail
        go_roundw
        case rel => exact ⟨k + 1, by omega, by go_num, HK, HB2⟩
        case measure => simp [intOf]; omega
    · obtain rfl : k = 34 := by omega
      have HK : Hid (firstFrom f 0 rulesB = -1) := by
        show _ = _
        rw [HQ.out, List.drop_eq_nil_of_le (by rw [HL.out]; exact Nat.le_refl _)]; rfl
      clear HQ
      go_wp2
      go_ret
      exact ⟨ret_int HK.out.symm, HB.out⟩

theorem rd_set {w : World} {k n b g : Nat} {xs : List Value} (h : Rd w k (some ⟨b, 0, none⟩) n xs) (hne : b ≠ g) (o : Nat) (v : Value) : Rd (w.setCell ⟨g, o, none⟩ v) k (some ⟨b, 0, none⟩) n xs :=
  ⟨h.1, fun hn => by
    obtain ⟨ad, e, hb, hx⟩ := h.2 hn
    injection e with e
    subst e
    exact ⟨_, rfl, by simpa using hb, fun j u hu => by
      rw [add_plain, World.cell?_setCell_other _ _ _ _ (by intro e'; simp only [Addr.mk.injEq] at e'; omega)]
      have := hx j u hu
      rwa [add_plain] at this⟩⟩
def FindEnd (P : List ByteArray) (w : World) (e : Ending) (w' : World) : Prop :=
  ((ruleOf P = none ∧ e = .returned (.tuple #[.agg #[.slice none 0 0, .bool false, .bool false], .bool false])) ∨
   (∃ r b c, ruleOf P = some r ∧ r ∈ rulesB ∧ e = .returned (.tuple #[.agg #[.slice (some ⟨b, 0, none⟩) r.path.length c, .bool r.one, .bool r.needed], .bool true]) ∧ r.path.length ≤ c ∧ c ≤ maxLen ∧ Rd w' 1 (some ⟨b, 0, none⟩) r.path.length (sv r.path))) ∧ Below w.heap.size w w'

set_option maxHeartbeats 2000000 in
set_option maxRecDepth 100000 in
theorem find_any (A : Option Addr) (c : Nat) (A2 : Option Addr) (c2 : Nat) (P : List ByteArray) (w : World) (hE : Env w) (hR : Rules w A) (hP : Rd w 1 A2 P.length (sv P)) (hpl : P.length ≤ 100000) (hps : Shw P) :
    Calls Tryz.prog 49 #[.slice A 34 c, .slice A2 P.length c2] w (FindEnd P w) := by
  obtain ⟨w0, hw0⟩ : ∃ w0, (w.alloc (.cells #[.slice A2 P.length c2] 26)).alloc (.cells #[.slice none 0 0, .bool false, .bool false] 74) = w0 := ⟨_, rfl⟩
  have hb0 : Below w.heap.size w w0 := by rw [← hw0]; exact ((Below.refl _ _).alloc (Nat.le_refl _) _).alloc (by simp) _
  have y0 : w0.cell? ⟨w.heap.size, 0, none⟩ = some (.slice A2 P.length c2) := by
    rw [← hw0, World.cell?_alloc_lt _ _ _ (by simp), World.cell?_alloc_at _ _ _ _ rfl]; rfl
  have z0 : ∀ j, j < 3 → w0.cell? ⟨w.heap.size + 1, j, none⟩ = (#[Value.slice none 0 0, .bool false, .bool false] : Array Value)[j]? := fun j hj => by
    rw [← hw0, World.cell?_alloc_at _ _ _ _ (by simp)]
  have zf : ∀ j, w0.frozen? ⟨w.heap.size + 1, j, none⟩ = false := fun j => by
    rw [← hw0]; simp
  have hsz : w0.heap.size = w.heap.size + 2 := by rw [← hw0]; simp
  obtain ⟨wb, hwb⟩ : ∃ wb, w.heap.size = wb := ⟨_, rfl⟩
  have HIx := Lib.hid (index1_any (.pointer (some ⟨wb, 0, none⟩)) (fun r => matchB r.path P) A c w0 (hR.below hb0) (fun W hbW r hr b c hc1 hc2 hrd => by
    have hbw := below_step hb0 hbW
    exact find1_any r b c wb A2 c2 P W (hE.below hbw) hr hrd ((hbW.cell (p := ⟨wb, 0, none⟩) (by show wb < _; rw [hsz, hwb]; omega)).trans (by rw [← hwb]; exact y0)) (hP.below hbw) hpl hps))
  have HR : Hid (Rules w0 A) := hR.below hb0
  have HB := Lib.hid hb0
  have HZ := Lib.hid z0
  have HZF := Lib.hid zf
  have HSZ := Lib.hid hsz
  have HWB := Lib.hid hwb
  have HX : Hid (ruleOf P = rulesB.find? fun r => matchB r.path P) := rfl
  have HFF := Lib.hid (firstFrom_find (f := fun r => matchB r.path P) rulesB 0)
  clear hE hR hP hps hb0 y0 z0 zf hsz
  generalize firstFrom (fun r => matchB r.path P) 0 rulesB = ff at *
  go_enter Tryz.func49, Tryz.ntmps49
  rcases HFF.out with ⟨h1, h2⟩ | ⟨j, hj, h1, h2⟩
  · subst h1
    have HN : Hid (ruleOf P = none) := by show _ = _; rw [HX.out, h2]
    clear h2 HX
    go_wp2_with fail
    refine HIx.out.mono ?_
    rintro e w2 ⟨rfl, hb2⟩
    have hlt : wb + 1 < w0.heap.size := by rw [HSZ.out, HWB.out]; omega
    have c0 : w2.cell? ⟨wb + 1, 0, none⟩ = some (.slice none 0 0) := (hb2.cell (p := ⟨wb + 1, 0, none⟩) hlt).trans (by rw [← HWB.out, HZ.out 0 (by omega)]; rfl)
    have c1 : w2.cell? ⟨wb + 1, 1, none⟩ = some (.bool false) := (hb2.cell (p := ⟨wb + 1, 1, none⟩) hlt).trans (by rw [← HWB.out, HZ.out 1 (by omega)]; rfl)
    have c2 : w2.cell? ⟨wb + 1, 2, none⟩ = some (.bool false) := (hb2.cell (p := ⟨wb + 1, 2, none⟩) hlt).trans (by rw [← HWB.out, HZ.out 2 (by omega)]; rfl)
    have zf : ∀ o, w2.frozen? ⟨wb + 1, o, none⟩ = false := fun o => (hb2.frozen (p := ⟨wb + 1, o, none⟩) hlt).trans (by rw [← HWB.out]; exact HZF.out o)
    have hB : Hid (Below w.heap.size w w2) := below_step HB.out hb2
    clear HIx HFF HZ HZF HR hb2 HB
    go_wp2
    refine bodyPost_ret (v := .tuple #[.agg #[.slice none 0 0, .bool false, .bool false], .bool false]) (by simp [results, Tryz.results49, go_sem, c0, c1, c2]) rfl ⟨.inl ⟨HN.out, rfl⟩, ?_⟩
    repeat (first | exact hB.out | refine Below.setCell ?_ (by show w.heap.size ≤ wb + 1; rw [HWB.out]; omega) _)
  · have hlr : j < rulesB.length := hj
    have HN : Hid (ruleOf P = some rulesB[j]) := by show _ = _; rw [HX.out, h2]
    have hmem := List.getElem_mem hlr
    have hj34 : j < 34 := by rw [rulesB_len] at hj; exact hj
    rw [Nat.zero_add] at h1
    subst h1
    clear h2 HX hj
    go_wp2_with fail
    refine HIx.out.mono ?_
    rintro e w2 ⟨rfl, hb2⟩
    have hlt : wb + 1 < w0.heap.size := by rw [HSZ.out, HWB.out]; omega
    have c0 : w2.cell? ⟨wb + 1, 0, none⟩ = some (.slice none 0 0) := (hb2.cell (p := ⟨wb + 1, 0, none⟩) hlt).trans (by rw [← HWB.out, HZ.out 0 (by omega)]; rfl)
    have c1 : w2.cell? ⟨wb + 1, 1, none⟩ = some (.bool false) := (hb2.cell (p := ⟨wb + 1, 1, none⟩) hlt).trans (by rw [← HWB.out, HZ.out 1 (by omega)]; rfl)
    have c2 : w2.cell? ⟨wb + 1, 2, none⟩ = some (.bool false) := (hb2.cell (p := ⟨wb + 1, 2, none⟩) hlt).trans (by rw [← HWB.out, HZ.out 2 (by omega)]; rfl)
    have zf : ∀ o, w2.frozen? ⟨wb + 1, o, none⟩ = false := fun o => (hb2.frozen (p := ⟨wb + 1, o, none⟩) hlt).trans (by rw [← HWB.out]; exact HZF.out o)
    have hB : Hid (Below w.heap.size w w2) := below_step HB.out hb2
    obtain ⟨B, O, b, cc, rfl, hab, hadd, hc1, hc2, hrd, x0, x1, x2⟩ := (HR.out.below hb2).one hlr
    have hrl := rules_path _ hmem
    obtain ⟨g0, hg0, hrd0⟩ := hrd.2 (by omega)
    have hbb : b < w2.heap.size := by injection hg0 with e; subst e; exact hrd0.1
    have hbne : b ≠ wb + 1 := by
      rintro rfl
      have hc := hrd0.2 0 _ (sv_get (by omega))
      injection hg0 with e
      subst e
      rw [add_plain, c0] at hc
      cases hc
    have HRD : Hid (Rd w2 1 (some ⟨b, 0, none⟩) rulesB[j].path.length (sv rulesB[j].path)) := hrd
    have HC1 := Lib.hid hc1
    have HC2 := Lib.hid hc2
    have HBN := Lib.hid hbne
    clear HIx HFF HZ HZF HR hb2 HB hrd hrd0 hg0 hc1 hc2 hrl hbne
    generalize rulesB[j] = r at *
    go_wp2
    refine bodyPost_ret (v := .tuple #[.agg #[.slice (some ⟨b, 0, none⟩) r.path.length cc, .bool r.one, .bool r.needed], .bool true]) (by simp [results, Tryz.results49, go_sem, c0, c1, c2]) rfl ⟨.inr ⟨r, b, cc, HN.out, hmem, rfl, HC1.out, HC2.out, ?_⟩, ?_⟩
    · exact rd_set (rd_set (rd_set HRD.out HBN.out _ _) HBN.out _ _) HBN.out _ _
    · repeat (first | exact hB.out | refine Below.setCell ?_ (by show w.heap.size ≤ wb + 1; rw [HWB.out]; omega) _)
end Go.Proofs.YtlldjkhlhfnfeaaGreatDoor

namespace Go.Proofs.YtlldjkhlhfnfeaaGreatDoor
open Go Go.RowKit Go.Sort Sch Adr Mtr Tre

theorem Rd.take {w : World} {A : Option Addr} {P : List ByteArray} (h : Rd w 1 A P.length (sv P)) {n : Nat} (hn : n ≤ P.length) : Rd w 1 A (P.take n).length (sv (P.take n)) := by
  refine ⟨by rw [sv_len]; simp, fun h0 => ?_⟩
  have hl : (P.take n).length = n := by rw [List.length_take]; omega
  obtain ⟨ad, e, hb, hx⟩ := h.2 (by omega)
  refine ⟨ad, e, hb, fun j u hu => hx j u ?_⟩
  have hj : j < n := by have := (List.getElem?_eq_some_iff.1 hu).1; rw [sv_len, hl] at this; exact this
  rw [← hu, sv_get (by omega : j < P.length), sv_get (by omega : j < (P.take n).length), List.getElem_take]
theorem shw_take {P : List ByteArray} (h : Shw P) (n : Nat) : Shw (P.take n) := fun s hs => h s (List.mem_of_mem_take hs)

set_option maxHeartbeats 4000000 in
set_option maxRecDepth 100000 in
theorem unknown1_any (r : Rule) (b c pn pp q : Nat) (A2 : Option Addr) (c2 : Nat) (P : List ByteArray) (w : World) (hE : Env w) (hr : r ∈ rulesB) (hrc : r.path.length ≤ c) (_hcm : c ≤ maxLen) (hR : Rd w 1 (some ⟨b, 0, none⟩) r.path.length (sv r.path)) (hn : w.cell? ⟨pn, 0, none⟩ = some (.int .i64 q)) (hc1 : w.cell? ⟨pp, 0, none⟩ = some (.slice A2 P.length c2)) (hP : Rd w 1 A2 P.length (sv P)) (hq : P.length = q + 1) (hpc : P.length ≤ c2) (_hc2 : c2 ≤ maxLen) (hpl : P.length ≤ 100000) (hps : Shw P) :
    Calls Tryz.prog 84 #[.agg #[.slice (some ⟨b, 0, none⟩) r.path.length c, .bool r.one, .bool r.needed], .pointer (some ⟨pn, 0, none⟩), .pointer (some ⟨pp, 0, none⟩)] w fun e w' => e = .returned (.bool (formB P r)) ∧ Below w.heap.size w w' := by
  obtain ⟨w0, hw0⟩ : ∃ w0, w.alloc (.cells #[.slice (some ⟨b, 0, none⟩) r.path.length c, .bool r.one, .bool r.needed] 74) = w0 := ⟨_, rfl⟩
  unfold maxLen at _hcm _hc2
  have hrl := rules_path r hr
  have hrs := rules_short r hr
  have hb0 : Below w.heap.size w w0 := by rw [← hw0]; exact (Below.refl _ _).alloc (Nat.le_refl _) _
  have HX : Hid (formB P r = (decide (r.path.length = P.length) && matchB (r.path.take q) (P.take q) && isType (r.path.getD q ⟨#[]⟩))) := by
    show _ = _; unfold formB; rw [show P.length - 1 = q by omega]
  have x0 : w0.cell? ⟨w.heap.size, 0, none⟩ = some (.slice (some ⟨b, 0, none⟩) r.path.length c) := by rw [← hw0, World.cell?_alloc_at _ _ _ _ rfl]; rfl
  have n0 : w0.cell? ⟨pn, 0, none⟩ = some (.int .i64 q) := (hb0.cell (p := ⟨pn, 0, none⟩) (Lib.lt_of_cell hn)).trans hn
  have y0 : w0.cell? ⟨pp, 0, none⟩ = some (.slice A2 P.length c2) := (hb0.cell (p := ⟨pp, 0, none⟩) (Lib.lt_of_cell hc1)).trans hc1
  have HB := Lib.hid hb0
  have X0 := fun m os => cell_regrown x0 m os
  have N0 := fun m os => cell_regrown n0 m os
  have Y0 := fun m os => cell_regrown y0 m os
  have hqi : (q : Int) ≤ 100000 := by omega
  have hqp : (q : Int) ≤ (P.length : Int) := by omega
  have hqc2 : (q : Int) ≤ (c2 : Int) := by omega
  by_cases hl : r.path.length = P.length
  · have hlb : ((r.path.length : Int) == (q : Int) + 1) = true := by rw [beq_iff_eq]; omega
    have hqr : q < r.path.length := by omega
    have hqri : (q : Int) < (r.path.length : Int) := by omega
    have hqc : (q : Int) ≤ (c : Int) := by omega
    have hM := match_any (some ⟨b, 0, none⟩) c (r.path.take q) A2 c2 (P.take q) w0 (hE.below hb0) ((hR.below hb0).take (by omega)) ((hP.below hb0).take (by omega)) (by rw [List.length_take]; omega) (by rw [List.length_take]; omega) (shw_take hrs _) (shw_take hps _)
    rw [show (r.path.take q).length = q by rw [List.length_take]; omega, show (P.take q).length = q by rw [List.length_take]; omega] at hM
    have hm : ∀ m os, Calls Tryz.prog 82 #[.slice (some ⟨b, 0, none⟩) q c, .slice A2 q c2] (grow (redrawn w0 m) os) fun e w' => e = .returned (.bool (matchB (r.path.take q) (P.take q))) ∧ ∃ p : Regrown, w' = grow (redrawn w0 p.d) p.os := fun m os => by
      have hbr := below_regrown w0 m os
      have := match_any (some ⟨b, 0, none⟩) c (r.path.take q) A2 c2 (P.take q) (grow (redrawn w0 m) os) ((hE.below hb0).below hbr) (((hR.below hb0).below hbr).take (by omega)) (((hP.below hb0).below hbr).take (by omega)) (by rw [List.length_take]; omega) (by rw [List.length_take]; omega) (shw_take hrs _) (shw_take hps _)
      rw [show (r.path.take q).length = q by rw [List.length_take]; omega, show (P.take q).length = q by rw [List.length_take]; omega] at this
      exact Calls.regrown_of this
    have HX2 : Hid (formB P r = (matchB (r.path.take q) (P.take q) && isType r.path[q])) := by
      show _ = _
      rw [HX.out, decide_eq_true hl, List.getD_eq_getElem?_getD, List.getElem?_eq_getElem hqr]; rfl
    obtain ⟨B', O', hA', -, -, z0⟩ := (hR.below hb0).strAt hqr
    injection hA' with hA'
    injection hA' with e1 e2
    subst e1 e2
    rw [Nat.zero_add] at z0
    have Z0 := fun m os => cell_regrown z0 m os
    have hp : ∀ m os, Calls Tryz.prog 85 #[.string r.path[q], .string ⟨#[36]⟩] (grow (redrawn w0 m) os) fun e w' => e = .returned (.bool (isType r.path[q])) ∧ ∃ p : Regrown, w' = grow (redrawn w0 p.d) p.os := fun m os =>
      (Tryz.strings_HasPrefix r.path[q] ⟨#[36]⟩ (grow (redrawn w0 m) os)).mono fun _ _ ⟨he, hm⟩ => ⟨he, ⟨m, os⟩, hm⟩
    clear hE hR hP hps hn hc1 hb0 x0 n0 y0 z0 hM HX hq hl hrl hrs
    generalize matchB (r.path.take q) (P.take q) = mb at *
    generalize isType r.path[q] = tb at *
    generalize r.path[q] = s at *
    cases mb with
    | false =>
      have HK : Hid (formB P r = false) := by show _ = _; rw [HX2.out]; rfl
      clear HX2 hp
      go_enter Tryz.func84, Tryz.ntmps84
      go_wp2_with fail
      refine wp_region_quiet_below (by kernel_rfl) (by kernel_rfl) ?_
      repeat (go_big_quiet_step ((go_at_call 82; exact hm _ _)))
      refine wpQuiet_nil ?_
      intro _ hw'
      obtain ⟨⟨dq, osq⟩, hw''⟩ := hw'
      subst hw''
      go_wp2_with fail
      go_ret
      exact ⟨ret_bool HK.out.symm, below_step HB.out (below_regrown w0 dq osq)⟩
    | true =>
      have HK : Hid (formB P r = tb) := by show _ = _; rw [HX2.out]; rfl
      clear HX2
      go_enter Tryz.func84, Tryz.ntmps84
      go_wp2_with fail
      refine wp_region_quiet_below (by kernel_rfl) (by kernel_rfl) ?_
      repeat (go_big_quiet_step ((first | (go_at_call 82; exact hm _ _) | (go_at_call 85; exact hp _ _))))
      refine wpQuiet_nil ?_
      intro _ hw'
      obtain ⟨⟨dq, osq⟩, hw''⟩ := hw'
      subst hw''
      go_wp2_with fail
      go_ret
      exact ⟨ret_bool HK.out.symm, below_step HB.out (below_regrown w0 dq osq)⟩
  · have hlb : ((r.path.length : Int) == (q : Int) + 1) = false := by rw [beq_eq_false_iff_ne]; omega
    have HK : Hid (formB P r = false) := by show _ = _; rw [HX.out, decide_eq_false hl]; rfl
    clear hE hR hP hps hn hc1 hb0 x0 n0 y0 HX hq hl hrl hrs
    go_enter Tryz.func84, Tryz.ntmps84
    go_wp2_with fail
    refine wp_region_quiet_below (by kernel_rfl) (by kernel_rfl) ?_
    repeat (go_big_quiet_step (fail))
    refine wpQuiet_nil ?_
    intro _ hw'
    obtain ⟨⟨dq, osq⟩, hw''⟩ := hw'
    subst hw''
    go_wp2_with fail
    go_ret
    exact ⟨ret_bool HK.out.symm, below_step HB.out (below_regrown w0 dq osq)⟩

set_option maxHeartbeats 2000000 in
set_option maxRecDepth 100000 in
theorem unknown_any (A : Option Addr) (c : Nat) (A2 : Option Addr) (c2 : Nat) (P : List ByteArray) (w : World) (hE : Env w) (hR : Rules w A) (hP : Rd w 1 A2 P.length (sv P)) (h1 : 1 ≤ P.length) (hpc : P.length ≤ c2) (hc2 : c2 ≤ maxLen) (hpl : P.length ≤ 100000) (hps : Shw P) :
    Calls Tryz.prog 50 #[.slice A 34 c, .slice A2 P.length c2] w fun e w' => e = .returned (.int .i64 (unknownOf P)) ∧ Below w.heap.size w w' := by
  obtain ⟨q, hq⟩ : ∃ q, P.length = q + 1 := ⟨P.length - 1, by omega⟩
  obtain ⟨wb, hwb⟩ : ∃ wb, w.heap.size = wb := ⟨_, rfl⟩
  obtain ⟨w0, hw0⟩ : ∃ w0, (w.alloc (.cells #[.slice A2 P.length c2] 26)).alloc (.cells #[.int .i64 q] 3) = w0 := ⟨_, rfl⟩
  have hb0 : Below w.heap.size w w0 := by rw [← hw0]; exact ((Below.refl _ _).alloc (Nat.le_refl _) _).alloc (by simp) _
  have hsz : w0.heap.size = wb + 2 := by rw [← hw0, ← hwb]; simp
  have y0 : w0.cell? ⟨wb, 0, none⟩ = some (.slice A2 P.length c2) := by
    rw [← hw0, ← hwb, World.cell?_alloc_lt _ _ _ (by simp), World.cell?_alloc_at _ _ _ _ rfl]; rfl
  have n0 : w0.cell? ⟨wb + 1, 0, none⟩ = some (.int .i64 q) := by
    rw [← hw0, World.cell?_alloc_at _ _ _ _ (by simp [hwb])]; rfl
  have HIx := Lib.hid (index2_any (.pointer (some ⟨wb + 1, 0, none⟩)) (.pointer (some ⟨wb, 0, none⟩)) (formB P) A c w0 (hR.below hb0) (fun W hbW r hr b c hc1 hc3 hrd => by
    have hbw := below_step hb0 hbW
    exact unknown1_any r b c (wb + 1) wb q A2 c2 P W (hE.below hbw) hr hc1 hc3 hrd ((hbW.cell (p := ⟨wb + 1, 0, none⟩) (by show wb + 1 < _; rw [hsz]; omega)).trans n0) ((hbW.cell (p := ⟨wb, 0, none⟩) (by show wb < _; rw [hsz]; omega)).trans y0) (hP.below hbw) hq hpc hc2 hpl hps))
  have HB := Lib.hid hb0
  have HQ : Hid ((P.length : Int) - 1 = (q : Int)) := by show _ = _; omega
  have HA := Lib.hid (firstFrom_any (f := formB P) rulesB 0)
  have HU : Hid (unknownOf P = if rulesB.any (formB P) then 2 else 3) := rfl
  have HW := Lib.hid hw0
  have HWB := Lib.hid hwb
  clear hE hR hP hps hb0 hsz y0 n0 hw0 hwb hq
  have hlo : -1 ≤ firstFrom (formB P) 0 rulesB := by
    rcases firstFrom_find (f := formB P) rulesB 0 with ⟨h, -⟩ | ⟨j, -, h, -⟩
    · rw [h]; decide
    · rw [h]; omega
  generalize firstFrom (formB P) 0 rulesB = ff at *
  generalize rulesB.any (formB P) = an at *
  have hCt : Hid (Calls Tryz.prog 83 #[.slice A 34 c, .func (.func 84) #[] #[.pointer (some ⟨wb + 1, 0, none⟩), .pointer (some ⟨wb, 0, none⟩)]] w0 fun e w' => e = .returned (.bool an) ∧ Below w0.heap.size w0 w') := by
    go_enter Tryz.func83, Tryz.ntmps83
    go_wp2_with fail
    refine HIx.out.mono ?_
    rintro e w2 ⟨rfl, hb2⟩
    go_wp2
    go_ret
    exact ⟨ret_bool HA.out, hb2⟩
  clear HIx HA
  go_enter Tryz.func50, Tryz.ntmps50
  go_wp2_with fail
  rw [HQ.out, HWB.out, HW.out]
  refine hCt.out.mono ?_
  rintro e w2 ⟨rfl, hb2⟩
  have hB2 := Lib.hid (below_step HB.out hb2)
  clear hCt hb2
  cases an with
  | true =>
    go_wp2
    go_ret
    exact ⟨ret_int HU.out.symm, by have := hB2.out; rwa [HWB.out] at this⟩
  | false =>
    go_wp2
    go_ret
    exact ⟨ret_int HU.out.symm, by have := hB2.out; rwa [HWB.out] at this⟩

/-- What is needed, of the first k statements. -/
def needsTo (P : List ByteArray) (k : Nat) : List ByteArray := ((rulesB.take k).filter (needB P)).map lastW
theorem needsTo_succ (P : List ByteArray) {k : Nat} (h : k < rulesB.length) : needsTo P (k + 1) = if needB P rulesB[k] then needsTo P k ++ [lastW rulesB[k]] else needsTo P k := by
  unfold needsTo
  rw [List.take_succ_eq_append_getElem h, List.filter_append, List.map_append]
  cases hn : needB P rulesB[k] <;> simp [hn]
theorem needsTo_len (P : List ByteArray) (k : Nat) : (needsTo P k).length ≤ k := by
  unfold needsTo
  rw [List.length_map]
  exact Nat.le_trans (List.length_filter_le _ _) (by rw [List.length_take]; omega)
theorem needsTo_all (P : List ByteArray) : needsTo P 34 = needsOf P := by
  unfold needsTo needsOf
  rw [← rulesB_len, List.take_length]

set_option maxHeartbeats 4000000 in
set_option maxRecDepth 100000 in
theorem needs_any (A : Option Addr) (c : Nat) (A2 : Option Addr) (c2 : Nat) (P : List ByteArray) (w : World) (hE : Env w) (hR : Rules w A) (hP : Rd w 1 A2 P.length (sv P)) (hpl : P.length ≤ 100000) (hps : Shw P) :
    Calls Tryz.prog 69 #[.slice A 34 c, .slice A2 P.length c2] w (StrsEnd w (needsOf P)) := by
  obtain ⟨i0, hi, hz0, hz1, hz2⟩ := info_parts info_string
  have HR := Lib.hid hR
  have HE := Lib.hid hE
  have HP := Lib.hid hP
  have HPS := Lib.hid hps
  have HL := Lib.hid rulesB_len
  clear hR hE hP hps
  go_enter Tryz.func69, Tryz.ntmps69
  go_wp2
  go_loopw [5, 11] (fun v vi wr => ∃ k : Nat, k ≤ 34 ∧ vi = .int .i64 k ∧ Hid (wr.ownsRow w.heap.size 9 1 v (needsTo P k).length (sv (needsTo P k))) ∧ Hid (Below w.heap.size w wr)) (fun _ vi _ => 34 - (intOf vi).toNat)
  case atStart => exact ⟨0, Nat.zero_le _, rfl, World.ownsRow_nil _ _ _ _, Below.refl _ _⟩
  case round =>
    obtain ⟨k, hk, rfl, HO, HB⟩ := hrel
    by_cases hlt : k < 34
    · have hlr : k < rulesB.length := by rw [HL.out]; exact hlt
      obtain ⟨B, O, b, cc, rfl, hab, hadd, hc1, hc3, hrd, x0, x1, x2⟩ := (HR.out.below HB.out).one hlr
      have hmem := List.getElem_mem hlr
      have hrl := rules_path _ hmem
      have hrs := rules_short _ hmem
      have hst := needsTo_succ P hlr
      have hnl := needsTo_len P k
      unfold maxLen at hc3
      obtain ⟨q, hq⟩ : ∃ q, rulesB[k].path.length = q + 1 := ⟨rulesB[k].path.length - 1, by omega⟩
      have HN : Hid (needB P rulesB[k] = (rulesB[k].needed && matchB (rulesB[k].path.take q) P)) := by show _ = _; unfold needB; rw [hq, Nat.add_sub_cancel]
      have hqr : q < rulesB[k].path.length := by omega
      have HW : Hid (lastW rulesB[k] = rulesB[k].path[q]'hqr) := by
        show _ = _
        unfold lastW
        rw [show rulesB[k].path.length - 1 = q by omega, List.getD_eq_getElem?_getD, List.getElem?_eq_getElem hqr]; rfl
      have hqi : (q : Int) < (rulesB[k].path.length : Int) := by omega
      have hqc : (q : Int) ≤ (cc : Int) := by omega
      have hq0 : (0 : Int) ≤ (q : Int) := by omega
      have HQ : Hid ((rulesB[k].path.length : Int) - 1 = (q : Int)) := by show _ = _; omega
      have HST := Lib.hid hst
      obtain ⟨wo, hwo⟩ : ∃ wo, wr.alloc (.cells #[.slice (some ⟨b, 0, none⟩) rulesB[k].path.length cc, .bool rulesB[k].one, .bool rulesB[k].needed] 74) = wo := ⟨_, rfl⟩
      have hbo : Below wr.heap.size wr wo := by rw [← hwo]; exact (Below.refl _ _).alloc (Nat.le_refl _) _
      have y0 : wo.cell? ⟨wr.heap.size, 0, none⟩ = some (.slice (some ⟨b, 0, none⟩) rulesB[k].path.length cc) := by rw [← hwo, World.cell?_alloc_at _ _ _ _ rfl]; rfl
      have y2 : wo.cell? ⟨wr.heap.size, 2, none⟩ = some (.bool rulesB[k].needed) := by rw [← hwo, World.cell?_alloc_at _ _ _ _ rfl]; rfl
      have hbw := below_step HB.out hbo
      have hM := match_any (some ⟨b, 0, none⟩) cc (rulesB[k].path.take q) A2 c2 P wo (HE.out.below hbw) ((hrd.below hbo).take (by omega)) (HP.out.below hbw) (by rw [List.length_take]; omega) hpl (shw_take hrs _) HPS.out
      rw [show (rulesB[k].path.take q).length = q by rw [List.length_take]; omega] at hM
      have HM := Lib.hid hM
      obtain ⟨B', O', hA', -, -, z0⟩ := (hrd.below hbo).strAt hqr
      injection hA' with hA'
      injection hA' with e1 e2
      subst e1 e2
      rw [Nat.zero_add] at z0
      have HZ := Lib.hid z0
      have HO2 := Lib.hid (own_below HO.out hbo)
      have HB2 := Lib.hid hbw
      rw [hq] at x0 y0 hwo
      have hqi2 : (q : Int) < (q : Int) + 1 := by omega
      have hq10 : (q : Int) ≤ 10 := by omega
      clear hM hst z0 hbw HO hrd hrs hmem hc1 hc3 hq hbo hqi HQ
      generalize matchB (rulesB[k].path.take q) P = mb at *
      generalize rulesB[k].path[q] = s at *
      generalize rulesB[k] = r at *
      clear hrl hqr
      obtain ⟨wrb, hwrb⟩ : ∃ wrb, wr.heap.size = wrb := ⟨_, rfl⟩
      rw [hwrb] at y0 y2
      have hwl : wrb < wo.heap.size := by rw [← hwo, ← hwrb]; simp
      cases hrn : r.needed with
      | false =>
        rw [hrn] at x2 y2 HN hwo
        have HF : Hid (needsTo P (k + 1) = needsTo P k) := by show _ = _; rw [HST.out, HN.out]; rfl
        have HWO := Lib.hid hwo
        clear HN HST HM HZ HW hrn hwo y0 y2 hwl
        subst hwrb
        go_wp2_with fail
        go_roundw
        case rel => exact ⟨k + 1, by omega, by go_num, by show World.ownsRow _ _ _ _ _ _ _; rw [HF.out, HWO.out]; exact HO2.out, by rw [HWO.out]; exact HB2⟩
        case measure => simp [intOf]; omega
      | true =>
        rw [hrn] at x2 y2 HN hwo
        clear hrn
        cases mb with
        | false =>
          have HF : Hid (needsTo P (k + 1) = needsTo P k) := by show _ = _; rw [HST.out, HN.out]; rfl
          clear HN HST HZ HW
          go_wp2_with fail
          refine HM.out.mono ?_
          rintro e w2 ⟨rfl, hb2⟩
          have HO3 := Lib.hid (own_below HO2.out hb2)
          have HB3 := Lib.hid (below_step HB2.out hb2)
          clear HM HO2 HB2 hb2
          go_wp2_with fail
          go_roundw
          case rel => exact ⟨k + 1, by omega, by go_num, by show World.ownsRow _ _ _ _ _ _ _; rw [HF.out]; exact HO3.out, HB3⟩
          case measure => simp [intOf]; omega
        | true =>
          have HF : Hid (needsTo P (k + 1) = needsTo P k ++ [s]) := by show _ = _; rw [HST.out, HN.out, HW.out]; rfl
          clear HN HST HW
          go_wp2_with fail
          refine HM.out.mono ?_
          rintro e w2 ⟨rfl, hb2⟩
          have HO3 := own_below HO2.out hb2
          have HB3 := below_step HB2.out hb2
          have v0 : w2.cell? ⟨wrb, 0, none⟩ = some (.slice (some ⟨b, 0, none⟩) (q + 1) cc) := (hb2.cell (p := ⟨wrb, 0, none⟩) hwl).trans y0
          have vz : w2.cell? ⟨b, q, none⟩ = some (.string s) := (hb2.cell (p := ⟨b, q, none⟩) (Lib.lt_of_cell HZ.out)).trans HZ.out
          generalize needsTo P k = nd at *
          clear HM HO2 HB2 hb2 y0 y2 hwo x0 x1 x2 HZ
          go_wp2_with (at_builtin; refine app_new rfl _ _ 26 rfl w w2 9 i0 _ 1 16 Tryz.underlying26 hi hz0 hz1 hz2 rfl (by decide) (by decide) HO3 HB3 rfl 1 1 [.string s] rfl rfl (by simp; rfl) (by omega) ?_; intro v' w' hown' hb')
          go_roundw
          case rel => exact ⟨k + 1, by omega, by go_num, by show World.ownsRow _ _ _ _ _ _ _; rw [HF.out]; exact own_push_str hown', hb'⟩
          case measure => simp [intOf]; omega
    · obtain rfl : k = 34 := by omega
      have HF := Lib.hid (needsTo_all P)
      have HOF := HO.out
      rw [HF.out] at HOF
      obtain ⟨A', c', rfl, hc1, hc3, hrd, hnz⟩ := own_rd_nil HOF
      have K : Hid (StrsEnd w (needsOf P) (.returned (.slice A' (needsOf P).length c')) wr) := ⟨A', c', rfl, hc1, hc3, hrd, hnz, HB.out⟩
      have HK2 := Lib.hid (show (needsTo P 34).length = (needsOf P).length by rw [HF.out])
      clear HOF HO hrd hnz hc1 hc3 HF
      go_wp2
      go_ret
      exact K.out
theorem rules_read {w w' : World} {v : Value} (h : Pl w' w.heap.size 74 3 v ritems) : ∃ A c, v = .slice A 34 c ∧ 34 ≤ c ∧ c ≤ maxLen ∧ Rules w' A := by
  obtain ⟨A, c, e, a, b, r, -⟩ := h.read
  rw [ritems_len] at e a
  exact ⟨A, c, e, a, b, r⟩
theorem Needs_any (A2 : Option Addr) (c2 : Nat) (P : List ByteArray) (w : World) (hE : Env w) (hP : Rd w 1 A2 P.length (sv P)) (hpl : P.length ≤ 100000) (hps : Shw P) :
    Calls Tryz.prog 42 #[.slice A2 P.length c2] w (StrsEnd w (needsOf P)) := by
  have HR := Lib.hid (rules_any w hE)
  have HN := Lib.hid (show ∀ A c W, Below w.heap.size w W → Rules W A → _ from fun A c W hb hR => needs_any A c A2 c2 P W (hE.below hb) hR (hP.below hb) hpl hps)
  clear hE hP hps
  go_enter Tryz.func42, Tryz.ntmps42
  go_wp2_with fail
  refine HR.out.mono ?_
  rintro e w2 ⟨⟨v, rfl, hv⟩, hb2⟩
  obtain ⟨A, c, rfl, hc1, hc3, hRu⟩ := rules_read hv
  have HC := Lib.hid (HN.out A c w2 hb2 hRu)
  have HB := Lib.hid hb2
  clear HN HR hv hc1 hc3 hRu hb2
  go_wp2_with fail
  refine HC.out.mono ?_
  rintro e w3 ⟨A', c', rfl, hc1, hc3, hrd, hnz, hb3⟩
  have K : Hid (StrsEnd w (needsOf P) (.returned (.slice A' (needsOf P).length c')) w3) := ⟨A', c', rfl, hc1, hc3, hrd, hnz, below_step HB.out hb3⟩
  clear HC hc1 hc3 hrd hnz hb3
  go_wp2
  go_ret
  exact K.out
end Go.Proofs.YtlldjkhlhfnfeaaGreatDoor
