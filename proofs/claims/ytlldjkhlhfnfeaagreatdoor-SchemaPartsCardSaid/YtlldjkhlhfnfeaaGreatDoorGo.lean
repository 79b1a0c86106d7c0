/- Plain: the document's answer for the faults of a tree. Walks: the reference's Second, Third, Needs. A walk: the reference's Known. A parameter that is a slice of lines, or of strings: what lies in its cells, as a list. -/
import Derived.BigQuiet
import Derived.BigCall
import Derived.Lib.QuietBelow
import Derived.Deep.Slices
import Derived.Deep.Fields
import Derived.ChangeSame
import Derived.Test.YtlldjkhlhfnfeaaGreatDoorGm
import Derived.Test.YtlldjkhlhfnfeaaGreatDoorGk
import Derived.Test.YtlldjkhlhfnfeaaGreatDoorGb
namespace Sch
open Go Go.Lib Adr Mtr Tre
def noB : ByteArray := ⟨#[]⟩
/-- What the document says of a path as such. -/
theorem known_eq {P : List ByteArray} (h0 : P ≠ []) (ha : aliveP P = true) :
    (ruleOf P = none ∧ knownB P ≠ 0 ∧ unknownOf P = knownB P) ∨ (∃ r, ruleOf P = some r ∧ knownB P = 0) := by
  rw [alive_iff] at ha
  rcases P with _ | ⟨a, _ | ⟨b, _ | ⟨c, _ | ⟨d, _ | ⟨e, l⟩⟩⟩⟩⟩
  · exact absurd rfl h0
  · rw [rule_1, form_1]
    show _ ∨ ∃ r, _ ∧ (if secondB a = ⟨#[]⟩ then (3 : Int) else 0) = 0
    show (_ ∧ (if secondB a = ⟨#[]⟩ then (3 : Int) else 0) ≠ 0 ∧ _ = (if secondB a = ⟨#[]⟩ then (3 : Int) else 0)) ∨ _
    by_cases h : secondB a = ⟨#[]⟩
    · rw [if_pos h, if_pos h]; exact .inl ⟨rfl, by decide, rfl⟩
    · rw [if_neg h, if_neg h]; exact .inr ⟨_, rfl, rfl⟩
  · have h1 : known [a] = true := ha 1 (by omega) (by simp)
    unfold known at h1
    rw [rule_1] at h1
    by_cases h : secondB a = ⟨#[]⟩
    · rw [if_pos h] at h1; cases h1
    rw [rule_2, form_2 a b h]
    show (_ ∧ (if typeB (secondB a) b = true then (0 : Int) else 2) ≠ 0 ∧ _ = (if typeB (secondB a) b = true then (0 : Int) else 2)) ∨ ∃ r, _ ∧ (if typeB (secondB a) b = true then (0 : Int) else 2) = 0
    by_cases k : typeB (secondB a) b = true
    · rw [if_pos k, if_pos k]; exact .inr ⟨_, rfl, rfl⟩
    · rw [if_neg k, if_neg k]; exact .inl ⟨rfl, by decide, rfl⟩
  · have h1 : known [a, b] = true := ha 2 (by omega) (by simp)
    unfold known at h1
    rw [rule_2] at h1
    by_cases h : typeB (secondB a) b = true
    · rw [rule_3, form_3, h]
      show (_ ∧ (if (thirdB a c).1 = ⟨#[]⟩ then (3 : Int) else 0) ≠ 0 ∧ _ = (if (thirdB a c).1 = ⟨#[]⟩ then (3 : Int) else 0)) ∨ ∃ r, _ ∧ (if (thirdB a c).1 = ⟨#[]⟩ then (3 : Int) else 0) = 0
      by_cases k : (thirdB a c).1 = ⟨#[]⟩
      · rw [if_pos k, if_neg (by simp [k])]; exact .inl ⟨rfl, by decide, rfl⟩
      · rw [if_neg k, if_pos (by simp [k])]; exact .inr ⟨_, rfl, rfl⟩
    · rw [if_neg h] at h1; cases h1
  · have h1 : known [a, b, c] = true := ha 3 (by omega) (by simp)
    unfold known at h1
    rw [rule_3] at h1
    by_cases h : (typeB (secondB a) b && !(decide ((thirdB a c).1 = ⟨#[]⟩))) = true
    · rw [Bool.and_eq_true] at h
      have hk : (thirdB a c).1 ≠ ⟨#[]⟩ := by simpa using h.2
      rw [rule_4, form_4 a b c d h.1 hk, h.1]
      show (_ ∧ (if typeB (thirdB a c).1 d = true then (0 : Int) else 2) ≠ 0 ∧ _ = (if typeB (thirdB a c).1 d = true then (0 : Int) else 2)) ∨ ∃ r, _ ∧ (if typeB (thirdB a c).1 d = true then (0 : Int) else 2) = 0
      by_cases k : typeB (thirdB a c).1 d = true
      · rw [if_pos k, if_pos (by simp [k])]; exact .inr ⟨_, rfl, rfl⟩
      · rw [if_neg k, if_neg (by simp [k])]; exact .inl ⟨rfl, by decide, rfl⟩
    · rw [if_neg h] at h1; cases h1
  · have hl : 4 < (a :: b :: c :: d :: e :: l).length := by simp
    rw [rule_long hl, form_long hl]
    exact .inl ⟨rfl, (by decide : (3 : Int) ≠ 0), rfl⟩
/-- An address in text does not begin with a $. -/
theorem ip_chars (n : Nat) : ∀ c ∈ ipText n, isDig c = true ∨ c = 46 := by
  intro c h
  have f := fun k (hk : c ∈ decDigits k) => List.all_eq_true.1 (dec_digits k) c hk
  unfold ipText at h
  rw [glue_more, glue_more, glue_more, glue_one] at h
  simp only [List.mem_append, List.mem_cons] at h
  rcases h with h | h | h | h | h | h | h
  all_goals first | exact .inl (f _ h) | exact .inr h
theorem ip_head {l : List UInt8} (h : 0 ≤ ip (36 :: l)) : False := by
  have := ip_chars (ip (36 :: l)).toNat 36 (by rw [(ip_fore _ h).2]; simp)
  revert this; decide
theorem ip_type {s : ByteArray} (h : 0 ≤ ip s.data.toList) : isType s = false := by
  cases hs : isType s with
  | false => rfl
  | true =>
    unfold isType hasPrefix at hs
    cases hl : s.data.toList with
    | nil => rw [hl] at hs; simp at hs
    | cons c l =>
      rw [hl] at hs h
      simp at hs
      subst hs
      exact (ip_head h).elim
theorem type_ip (w : ByteArray) : typeB tIp w = decide (0 ≤ ip w.data.toList) := by
  unfold typeB
  rw [if_neg (by decide +kernel), if_pos rfl]
/-- The document's test of a path ahead. -/
def rtest (s : ByteArray) (Q : List ByteArray) : Bool :=
  decide (Q.length = 4) && (decide (Q.getD 0 noB = wHosts) && (nameB (Q.getD 1 noB).data.toList && (decide (Q.getD 2 noB = wIp) && decide (Q.getD 3 noB = s))))
theorem type_name (w : ByteArray) : typeB tName w = nameB w.data.toList := by
  unfold typeB
  rw [if_pos rfl]
theorem rtest_eq {s : ByteArray} (hs : isType s = false) (Q : List ByteArray) : matchB [wHosts, tName, wIp, s] Q = rtest s Q := by
  rcases Q with _ | ⟨a, _ | ⟨b, _ | ⟨c, _ | ⟨d, _ | ⟨e, l⟩⟩⟩⟩⟩
  · rw [match_cons_nil]; rfl
  · rw [match_cons, match_cons_nil, Bool.and_false]; rfl
  · rw [match_cons, match_cons, match_cons_nil, Bool.and_false, Bool.and_false]; rfl
  · rw [match_cons, match_cons, match_cons, match_cons_nil, Bool.and_false, Bool.and_false, Bool.and_false]; rfl
  · rw [match_cons, match_cons, match_cons, match_cons, match_nil, Bool.and_true, fits_wHosts, fits_tName, fits_wIp, fits_w hs, type_name]; rfl
  · rw [match_short (by simp)]
    unfold rtest
    rw [decide_eq_false (by simp), Bool.false_and]
def refTwFrom (L : List Line) (s : ByteArray) (k : Nat) : Nat → Bool
  | 0 => false
  | n + 1 => rtest s (pathB L k) || refTwFrom L s (k + 1) n
def refTwB (L : List Line) (i : Nat) (s : ByteArray) : Bool := refTwFrom L s 0 i
theorem tw_ref {s : ByteArray} (hs : isType s = false) (L : List Line) : ∀ n k, twiceFrom L s k n = refTwFrom L s k n := by
  intro n
  induction n with
  | zero => intro k; rfl
  | succ n ih => intro k; unfold twiceFrom refTwFrom; rw [rtest_eq hs, ih]
def refOutB (L : List Line) (s vni : ByteArray) : Bool :=
  match findB L [wVnis, vni, wSubnet] with
  | none => false
  | some n => match kidsB L n with
    | [] => false
    | k :: _ => decide (0 ≤ (pre (wordAt L k).data.toList).1) && !(isIn (pre (wordAt L k).data.toList).1 (pre (wordAt L k).data.toList).2 (ip s.data.toList))
theorem out_ref {s : ByteArray} (hs : 0 ≤ ip s.data.toList) (L : List Line) (vni : ByteArray) : outsideB L s vni = refOutB L s vni := by
  unfold outsideB refOutB
  rw [show max (ip s.data.toList) 0 = ip s.data.toList by omega]
  cases findB L [wVnis, vni, wSubnet] with
  | none => rfl
  | some n =>
    show (match kidsB L n with | [] => false | k :: _ => _) = (match kidsB L n with | [] => false | k :: _ => _)
    cases kidsB L n <;> rfl
def refMeantB (L : List Line) (i : Nat) (P : List ByteArray) : Bool :=
  if P.getD 0 noB = wHosts ∧ P.getD 2 noB = wIp then refTwB L i (P.getD 3 noB)
  else if P.getD 0 noB = wBind ∧ P.getD 2 noB = wHost ∨ P.getD 0 noB = wRoutes ∧ P.getD 2 noB = wVia then !(isThere L wHosts (P.getD 3 noB))
  else if P.getD 0 noB = wHosts ∧ P.getD 2 noB = wVnis then !(isThere L wVnis (P.getD 3 noB))
  else if P.getD 0 noB = wBind ∧ P.getD 2 noB = wVni then !(isThere L wVnis (P.getD 3 noB)) || refOutB L (P.getD 1 noB) (P.getD 3 noB)
  else false
def refOneF (L : List Line) (i : Nat) (P : List ByteArray) : List Fault :=
  if P.length = 3 ∧ (thirdB (P.getD 0 noB) (P.getD 2 noB)).2.1 = true then (if (kidsB L i).length = 0 then [(P, 1)] else if 1 < (kidsB L i).length then [(P, 4)] else []) else []
def refMissF (L : List Line) (i : Nat) (P : List ByteArray) : List Fault := if P.length = 2 then missF L i P (needs2 (P.getD 0 noB)) else []
def refMeantF (L : List Line) (i : Nat) (P : List ByteArray) : List Fault := if P.length = 4 ∧ refMeantB L i P = true then [(P, 7)] else []
def refLineF (L : List Line) (i : Nat) (P : List ByteArray) : List Fault := refOneF L i P ++ refMissF L i P ++ refMeantF L i P
theorem meant_words : ∀ r ∈ rulesB, r.path.length = 4 → (glueB r.path = m1 ↔ r.path.getD 0 noB = wHosts ∧ r.path.getD 2 noB = wIp) ∧ (glueB r.path = m2 ↔ r.path.getD 0 noB = wBind ∧ r.path.getD 2 noB = wHost) ∧
    (glueB r.path = m3 ↔ r.path.getD 0 noB = wRoutes ∧ r.path.getD 2 noB = wVia) ∧ (glueB r.path = m4 ↔ r.path.getD 0 noB = wHosts ∧ r.path.getD 2 noB = wVnis) ∧ (glueB r.path = m5 ↔ r.path.getD 0 noB = wBind ∧ r.path.getD 2 noB = wVni) := by decide +kernel
theorem meant_no {L : List Line} {i : Nat} {r : Rule} {P : List ByteArray} (hr : r ∈ rulesB) (h : r.path.length ≠ 4) : meantB L i r.path P = false := by
  have hm := meant_four r hr
  unfold meantB
  rw [if_neg fun e => h (hm (.inl e)), if_neg (by rintro (e | e); exact h (hm (.inr (.inl e))); exact h (hm (.inr (.inr (.inl e))))), if_neg fun e => h (hm (.inr (.inr (.inr (.inl e))))), if_neg fun e => h (hm (.inr (.inr (.inr (.inr e)))))]
theorem ref_line {L : List Line} {i : Nat} {P : List ByteArray} {r : Rule} (h : ruleOf P = some r) : lineF L i r P = refLineF L i P := by
  have hm : r ∈ rulesB := List.mem_of_find?_eq_some h
  unfold lineF refLineF refOneF refMissF refMeantF
  rcases P with _ | ⟨a, _ | ⟨b, _ | ⟨c, _ | ⟨d, _ | ⟨e, l⟩⟩⟩⟩⟩
  · rw [rule_0] at h; cases h
  · rw [rule_1] at h
    by_cases k : secondB a = ⟨#[]⟩
    · rw [if_pos k] at h; cases h
    rw [if_neg k] at h
    injection h with h
    subst h
    unfold meantF
    rw [oneF_no rfl, needs_other (by simp), meant_no hm (by simp), if_neg (show ¬ ([a].length = 3 ∧ _) by simp), if_neg (show ¬ [a].length = 2 by simp), if_neg (show ¬ ([a].length = 4 ∧ _) by simp)]; rfl
  · rw [rule_2] at h
    by_cases k : typeB (secondB a) b = true
    · rw [if_pos k] at h
      injection h with h
      subst h
      unfold meantF
      rw [oneF_no rfl, needs_2, if_pos k, meant_no hm (by simp), if_neg (show ¬ ([a, b].length = 3 ∧ _) by simp), if_pos (show [a, b].length = 2 by simp), if_neg (show ¬ ([a, b].length = 4 ∧ _) by simp)]; rfl
    · rw [if_neg k] at h; cases h
  · rw [rule_3] at h
    by_cases k : (typeB (secondB a) b && !(decide ((thirdB a c).1 = ⟨#[]⟩))) = true
    · rw [if_pos k] at h
      injection h with h
      subst h
      unfold meantF
      rw [needs_other (by simp), meant_no hm (by simp), if_neg (show ¬ [a, b, c].length = 2 by simp), if_neg (show ¬ ([a, b, c].length = 4 ∧ _) by simp)]
      unfold oneF
      show (if ((thirdB a c).2.1 && _) = true then _ else if ((thirdB a c).2.1 && _) = true then _ else _) ++ _ ++ _ = (if _ ∧ (thirdB a c).2.1 = true then _ else _) ++ _ ++ _
      by_cases hx : (thirdB a c).2.1 = true
      · simp [missF, hx]
      · rw [Bool.not_eq_true] at hx
        simp [missF, hx]
    · rw [if_neg k] at h; cases h
  · rw [rule_4] at h
    by_cases k : (typeB (secondB a) b && typeB (thirdB a c).1 d) = true
    · rw [if_pos k] at h
      injection h with h
      subst h
      rw [Bool.and_eq_true] at k
      obtain ⟨k1, k2⟩ := k
      rw [oneF_no rfl, needs_other (by simp), if_neg (show ¬ ([a, b, c, d].length = 3 ∧ _) by simp), if_neg (show ¬ [a, b, c, d].length = 2 by simp)]
      unfold meantF
      have hw := meant_words _ hm rfl
      have e : meantB L i [a, secondB a, c, (thirdB a c).1] [a, b, c, d] = refMeantB L i [a, b, c, d] := by
        unfold meantB refMeantB
        simp only [hw.1, hw.2.1, hw.2.2.1, hw.2.2.2.1, hw.2.2.2.2]
        show (if a = wHosts ∧ c = wIp then twiceB L i d else if a = wBind ∧ c = wHost ∨ a = wRoutes ∧ c = wVia then _ else if a = wHosts ∧ c = wVnis then _ else if a = wBind ∧ c = wVni then _ || outsideB L b d else _) = (if a = wHosts ∧ c = wIp then refTwB L i d else if a = wBind ∧ c = wHost ∨ a = wRoutes ∧ c = wVia then _ else if a = wHosts ∧ c = wVnis then _ else if a = wBind ∧ c = wVni then _ || refOutB L b d else _)
        by_cases c1 : a = wHosts ∧ c = wIp
        · rw [if_pos c1, if_pos c1]
          obtain ⟨rfl, rfl⟩ := c1
          rw [third_hosts_wIp] at k2
          have k2 : typeB tIp d = true := k2
          rw [type_ip, decide_eq_true_eq] at k2
          exact tw_ref (ip_type k2) L i 0
        · rw [if_neg c1, if_neg c1]
          by_cases c5 : a = wBind ∧ c = wVni
          · rw [if_pos c5, if_pos c5]
            obtain ⟨rfl, rfl⟩ := c5
            rw [second_bind] at k1
            rw [type_ip, decide_eq_true_eq] at k1
            rw [out_ref k1]; rfl
          · rw [if_neg c5, if_neg c5]; rfl
      rw [e]
      cases refMeantB L i [a, b, c, d] <;> simp [missF]
    · rw [if_neg k] at h; cases h
  · rw [rule_long (by simp)] at h; cases h

theorem pa_ne {L : List Line} (hr : rightB L = true) {i : Nat} (hi : i < L.length) : pa L i ≠ [] := fun e => by
  have := pa_len (right_parts hr).2.1 hi
  rw [e] at this; simp at this
theorem ref_known {L : List Line} (hr : rightB L = true) {i : Nat} (hi : i < L.length) (ha : aliveP (pa L i) = true) (hk : knownB (pa L i) = 0) : checkTo L (i + 1) = checkTo L i ++ refLineF L i (pa L i) ∧ known (pa L i) = true := by
  rcases known_eq (pa_ne hr hi) ha with ⟨-, h, -⟩ | ⟨r, h, -⟩
  · exact absurd hk h
  · exact ⟨by rw [check_known ha h, ref_line h], by unfold known; rw [h]; rfl⟩
theorem ref_skip {L : List Line} (hr : rightB L = true) {i : Nat} (hi : i < L.length) (ha : aliveP (pa L i) = true) (hk : knownB (pa L i) ≠ 0) : checkTo L (endB L i) = checkTo L i ++ [(pa L i, knownB (pa L i))] := by
  rcases known_eq (pa_ne hr hi) ha with ⟨h, -, h2⟩ | ⟨r, -, h2⟩
  · rw [check_skip hr hi ha h, h2]
  · exact absurd h2 hk
end Sch

namespace Sch
open Go Go.Lib Adr Mtr Tre
theorem cat_list (a c : ByteArray) : (a ++ ⟨#[32]⟩ ++ c).toList = a.data.toList ++ 32 :: c.data.toList := by
  rw [Lib.toList_data]; simp [ByteArray.data_append]
theorem cat_iff {a c x y : List UInt8} (hx : (32 : UInt8) ∉ x) (hy : (32 : UInt8) ∉ y) : a ++ 32 :: c = x ++ 32 :: y ↔ a = x ∧ c = y := by
  constructor
  · intro h
    rcases List.append_eq_append_iff.1 h with ⟨t, h1, h2⟩ | ⟨t, h1, h2⟩
    · cases t with
      | nil => simp at h1 h2; exact ⟨h1.symm, h2⟩
      | cons z t =>
        simp only [List.cons_append, List.cons.injEq] at h2
        exact absurd (by rw [h1, ← h2.1]; simp) hx
    · cases t with
      | nil => simp at h1 h2; exact ⟨h1, h2.symm⟩
      | cons z t =>
        simp only [List.cons_append, List.cons.injEq] at h2
        exact absurd (by rw [h2.2]; simp) hy
  · rintro ⟨rfl, rfl⟩; rfl
theorem data_eq {a : ByteArray} {x : List UInt8} : a.data.toList = x ↔ a = ⟨x.toArray⟩ := by
  constructor
  · rintro rfl; exact (Lib.mk_data a).symm
  · rintro rfl; simp
theorem cat_test {a c S : ByteArray} (h : a ++ ⟨#[32]⟩ ++ c = S) (x y : List UInt8) (hx : (32 : UInt8) ∉ x) (hy : (32 : UInt8) ∉ y) : (S.toList == x ++ 32 :: y) = decide (a = ⟨x.toArray⟩ ∧ c = ⟨y.toArray⟩) := by
  rw [← h, cat_list, Bool.eq_iff_iff, beq_iff_eq, cat_iff hx hy, data_eq, data_eq, decide_eq_true_eq]
end Sch
namespace Go.Proofs.YtlldjkhlhfnfeaaGreatDoor
open Go Go.RowKit Go.Sort Sch Adr Mtr Tre

set_option maxHeartbeats 2000000 in
set_option maxRecDepth 100000 in
theorem second_any (a : ByteArray) (w : World) : Calls Tryz.prog 16 #[.string a] w fun e w' => e = .returned (.string (secondB a)) ∧ Below w.heap.size w w' := by
  by_cases e0 : a = wHosts
  · have HV : Hid (secondB a = tName) := by show _ = _; rw [e0, second_hosts]
    have q0 : (a.toList == [104, 111, 115, 116, 115]) = true := (type_eq a _).trans (decide_eq_true e0)
    have p0 : a.toList = [104, 111, 115, 116, 115] := by simpa using q0
    clear e0
    go_enter Tryz.func16, Tryz.ntmps16
    go_wp2
    go_ret
    exact ⟨by rw [HV.out]; rfl, Below.refl _ _⟩
  by_cases e1 : a = wVnis
  · have HV : Hid (secondB a = tVni) := by show _ = _; rw [e1, second_vnis]
    have q0 : (a.toList == [104, 111, 115, 116, 115]) = false := (type_eq a _).trans (decide_eq_false e0)
    have p0 : ¬ a.toList = [104, 111, 115, 116, 115] := by simpa using q0
    have q1 : (a.toList == [118, 110, 105, 115]) = true := (type_eq a _).trans (decide_eq_true e1)
    have p1 : a.toList = [118, 110, 105, 115] := by simpa using q1
    clear e0 e1
    go_enter Tryz.func16, Tryz.ntmps16
    go_wp2
    go_ret
    exact ⟨by rw [HV.out]; rfl, Below.refl _ _⟩
  by_cases e2 : a = wBind
  · have HV : Hid (secondB a = tIp) := by show _ = _; rw [e2, second_bind]
    have q0 : (a.toList == [104, 111, 115, 116, 115]) = false := (type_eq a _).trans (decide_eq_false e0)
    have p0 : ¬ a.toList = [104, 111, 115, 116, 115] := by simpa using q0
    have q1 : (a.toList == [118, 110, 105, 115]) = false := (type_eq a _).trans (decide_eq_false e1)
    have p1 : ¬ a.toList = [118, 110, 105, 115] := by simpa using q1
    have q2 : (a.toList == [98, 105, 110, 100, 105, 110, 103, 115]) = true := (type_eq a _).trans (decide_eq_true e2)
    have p2 : a.toList = [98, 105, 110, 100, 105, 110, 103, 115] := by simpa using q2
    clear e0 e1 e2
    go_enter Tryz.func16, Tryz.ntmps16
    go_wp2
    go_ret
    exact ⟨by rw [HV.out]; rfl, Below.refl _ _⟩
  by_cases e3 : a = wRoutes
  · have HV : Hid (secondB a = tPrefix) := by show _ = _; rw [e3, second_routes]
    have q0 : (a.toList == [104, 111, 115, 116, 115]) = false := (type_eq a _).trans (decide_eq_false e0)
    have p0 : ¬ a.toList = [104, 111, 115, 116, 115] := by simpa using q0
    have q1 : (a.toList == [118, 110, 105, 115]) = false := (type_eq a _).trans (decide_eq_false e1)
    have p1 : ¬ a.toList = [118, 110, 105, 115] := by simpa using q1
    have q2 : (a.toList == [98, 105, 110, 100, 105, 110, 103, 115]) = false := (type_eq a _).trans (decide_eq_false e2)
    have p2 : ¬ a.toList = [98, 105, 110, 100, 105, 110, 103, 115] := by simpa using q2
    have q3 : (a.toList == [114, 111, 117, 116, 101, 115]) = true := (type_eq a _).trans (decide_eq_true e3)
    have p3 : a.toList = [114, 111, 117, 116, 101, 115] := by simpa using q3
    clear e0 e1 e2 e3
    go_enter Tryz.func16, Tryz.ntmps16
    go_wp2
    go_ret
    exact ⟨by rw [HV.out]; rfl, Below.refl _ _⟩
  by_cases e4 : a = wPolicy
  · have HV : Hid (secondB a = tNum) := by show _ = _; rw [e4, second_policy]
    have q0 : (a.toList == [104, 111, 115, 116, 115]) = false := (type_eq a _).trans (decide_eq_false e0)
    have p0 : ¬ a.toList = [104, 111, 115, 116, 115] := by simpa using q0
    have q1 : (a.toList == [118, 110, 105, 115]) = false := (type_eq a _).trans (decide_eq_false e1)
    have p1 : ¬ a.toList = [118, 110, 105, 115] := by simpa using q1
    have q2 : (a.toList == [98, 105, 110, 100, 105, 110, 103, 115]) = false := (type_eq a _).trans (decide_eq_false e2)
    have p2 : ¬ a.toList = [98, 105, 110, 100, 105, 110, 103, 115] := by simpa using q2
    have q3 : (a.toList == [114, 111, 117, 116, 101, 115]) = false := (type_eq a _).trans (decide_eq_false e3)
    have p3 : ¬ a.toList = [114, 111, 117, 116, 101, 115] := by simpa using q3
    have q4 : (a.toList == [112, 111, 108, 105, 99, 121]) = true := (type_eq a _).trans (decide_eq_true e4)
    have p4 : a.toList = [112, 111, 108, 105, 99, 121] := by simpa using q4
    clear e0 e1 e2 e3 e4
    go_enter Tryz.func16, Tryz.ntmps16
    go_wp2
    go_ret
    exact ⟨by rw [HV.out]; rfl, Below.refl _ _⟩
  have HV : Hid (secondB a = ⟨#[]⟩) := second_none e0 e1 e2 e3 e4
  have q0 : (a.toList == [104, 111, 115, 116, 115]) = false := (type_eq a _).trans (decide_eq_false e0)
  have p0 : ¬ a.toList = [104, 111, 115, 116, 115] := by simpa using q0
  have q1 : (a.toList == [118, 110, 105, 115]) = false := (type_eq a _).trans (decide_eq_false e1)
  have p1 : ¬ a.toList = [118, 110, 105, 115] := by simpa using q1
  have q2 : (a.toList == [98, 105, 110, 100, 105, 110, 103, 115]) = false := (type_eq a _).trans (decide_eq_false e2)
  have p2 : ¬ a.toList = [98, 105, 110, 100, 105, 110, 103, 115] := by simpa using q2
  have q3 : (a.toList == [114, 111, 117, 116, 101, 115]) = false := (type_eq a _).trans (decide_eq_false e3)
  have p3 : ¬ a.toList = [114, 111, 117, 116, 101, 115] := by simpa using q3
  have q4 : (a.toList == [112, 111, 108, 105, 99, 121]) = false := (type_eq a _).trans (decide_eq_false e4)
  have p4 : ¬ a.toList = [112, 111, 108, 105, 99, 121] := by simpa using q4
  clear e0 e1 e2 e3 e4
  go_enter Tryz.func16, Tryz.ntmps16
  go_wp2
  go_ret
  exact ⟨by rw [HV.out]; rfl, Below.refl _ _⟩

/-- The reference's answer of three. -/
def thirdRet (x : ByteArray × Bool × Bool) : Value := .tuple #[.string x.1, .bool x.2.1, .bool x.2.2]
end Go.Proofs.YtlldjkhlhfnfeaaGreatDoor

namespace Sch
open Go Go.Lib Adr Mtr Tre
theorem emp_iff (s : ByteArray) : s.toList.isEmpty = decide (s = ⟨#[]⟩) := by
  rw [Lib.toList_data, Bool.eq_iff_iff, List.isEmpty_iff, decide_eq_true_eq]
  constructor
  · intro h; exact ByteArray.ext (Array.toList_inj.1 (by rw [h]))
  · rintro rfl; rfl
theorem emp_list (s : ByteArray) : s.toList = [] ↔ s = ⟨#[]⟩ := by
  have := emp_iff s
  rw [Bool.eq_iff_iff, List.isEmpty_iff, decide_eq_true_eq] at this
  exact this
end Sch
namespace Go.Proofs.YtlldjkhlhfnfeaaGreatDoor
open Go Go.RowKit Go.Sort Sch Adr Mtr Tre

end Go.Proofs.YtlldjkhlhfnfeaaGreatDoor

namespace Go.Proofs.YtlldjkhlhfnfeaaGreatDoor
open Go Go.ChangeShapes Go.WideShapes Go.Deep Go.RowKit Tre

section
variable {H : Type} {enc : TypeId × Value → H} {P : Program} {w : World} {base : Nat} {spare : Nat → Bool} {held : Bool}
/-- One cell of an element, and its reading. -/
theorem field_at {e : TypeId} {fs : Array Field} {n : Nat} {b : Addr} {x : DataW H × List MemPlace} {cs : List Value} (he : P.underlying e = some (.struct fs)) (hone : oneCellFields P fs = true) (hC : P.cellsOf e = fs.size)
    (hc : w.cells? base b (P.cellsOf e) = some cs) (ht : DataW.trod enc P w base spare held n e cs = some x) (j : Nat) (f : Field) (hj : fs[j]? = some f) :
    ∃ v y m, w.cell? (b.add j) = some v ∧ DataW.trod enc P w base spare held m f.type [v] = some y := by
  obtain ⟨ys, m, -, -, -, hyl, hf⟩ := DataW.trod_struct he ht
  obtain ⟨-, hl, hat⟩ := World.cells?_some hc
  obtain ⟨ho, hk⟩ := hone_of hone j f hj
  have hjs : j < fs.size := (Array.getElem?_eq_some_iff.1 hj).1
  have hjc : j < cs.length := by omega
  have hd : (cs.drop j).take 1 = [cs[j]] := by rw [List.drop_eq_getElem_cons hjc]; rfl
  have h1 := hf j f hj
  rw [ho, hk, hd] at h1
  exact ⟨cs[j], ys[j]'(by omega), m, (hat j (by omega)).trans (List.getElem?_eq_getElem hjc), h1.trans (List.getElem?_eq_getElem (by omega))⟩

theorem open_lines {r : Reach} {b0 : Nat} {t e : TypeId} {f0 f1 f2 : Field} {v : Value} {d : DataW H} {p : List MemPlace} (ht : P.underlying t = some (.slice e)) (he : P.underlying e = some (.struct #[f0, f1, f2]))
    (hone : oneCellFields P #[f0, f1, f2] = true) (hC : P.cellsOf e = 3) (u0 : P.underlying f0.type = some (.int .i64)) (u1 : P.underlying f1.type = some .string) (u2 : P.underlying f2.type = some (.int .i64))
    (hv : Value.okWide P w r b0 t v) (h : DataW.Trod enc P w base spare held t v d p) :
    ∃ (A : Option Addr) (cap : Nat) (L : List Line), v = .slice A L.length cap ∧ L.length ≤ cap ∧ cap ≤ maxLen ∧ Rd w 3 A L.length (lines L) := by
  obtain ⟨a0, len, cap, rfl⟩ := okWide_slice ht hv
  obtain ⟨fuel, hf⟩ := h
  rcases open_slice ht hf with ⟨hcs, -⟩ | ⟨a, len', cap', m, n, D, Pl, hcs, -, hl, hm, hmm, -, hi⟩
  · simp [Value.cells] at hcs
    obtain ⟨rfl, rfl, rfl⟩ := hcs
    exact ⟨none, 0, [], rfl, Nat.le_refl _, by unfold maxLen; omega, Rd.nil⟩
  · simp [Value.cells] at hcs
    obtain ⟨rfl, rfl, rfl⟩ := hcs
    have hlm : len ≤ m := by rw [hmm]; split <;> omega
    have each : ∀ i, ∃ x : Line, i < len → w.cell? (a.add (i * 3)) = some (.int .i64 x.depth) ∧ w.cell? (a.add (i * 3 + 1)) = some (.string x.word) ∧ w.cell? (a.add (i * 3 + 2)) = some (.int .i64 x.mark) := by
      intro i
      by_cases hlt : i < len
      · obtain ⟨cs, hc, htr⟩ := hi i (by omega)
        have F := field_at he hone hC hc htr
        obtain ⟨v0, y0, m0, c0, t0⟩ := F 0 f0 rfl
        obtain ⟨v1, y1, m1, c1, t1⟩ := F 1 f1 rfl
        obtain ⟨v2, y2, m2, c2, t2⟩ := F 2 f2 rfl
        obtain ⟨k0, e0, -⟩ := DataW.trod_int u0 t0
        obtain ⟨s1, e1, -⟩ := DataW.trod_string u1 t1
        obtain ⟨k2, e2, -⟩ := DataW.trod_int u2 t2
        injection e0 with e0
        injection e1 with e1
        injection e2 with e2
        rw [add_twice, hC] at c0 c1 c2
        exact ⟨⟨k0, s1, k2⟩, fun _ => ⟨by rw [← e0]; exact c0, by rw [← e1]; exact c1, by rw [← e2]; exact c2⟩⟩
      · exact ⟨⟨0, ⟨#[]⟩, 0⟩, fun h => absurd h hlt⟩
    obtain ⟨f, hfx⟩ := Classical.axiomOfChoice each
    refine ⟨some a, cap, (List.range len).map f, by simp, by simpa using hl, hm, by rw [lines_length], fun hn => ?_⟩
    have hn' : 0 < len := by simpa using hn
    refine ⟨a, rfl, Lib.lt_of_cell (a := a) (by have := (hfx 0 hn').1; simpa [Addr.add] using this), fun j u hu => ?_⟩
    have hj : j < ((List.range len).map f).length * 3 := by
      have := (List.getElem?_eq_some_iff.1 hu).1
      rwa [lines_length] at this
    have hj' : j < len * 3 := by simpa using hj
    obtain ⟨i, q, rfl, hq⟩ : ∃ i q, j = i * 3 + q ∧ q < 3 := ⟨j / 3, j % 3, by omega, by omega⟩
    have hil : i < len := by omega
    rw [lines_get _ i q (by simpa using hil) hq] at hu
    obtain ⟨g0, g1, g2⟩ := hfx i hil
    simp only [List.getElem_map, List.getElem_range, Line.cells] at hu
    match q, hq with
    | 0, _ => rw [← hu]; simpa using g0
    | 1, _ => rw [← hu]; simpa using g1
    | 2, _ => rw [← hu]; simpa using g2

theorem open_strs {r : Reach} {b0 : Nat} {t e : TypeId} {v : Value} {d : DataW H} {p : List MemPlace} (ht : P.underlying t = some (.slice e)) (he : P.underlying e = some .string) (hC : P.cellsOf e = 1)
    (hv : Value.okWide P w r b0 t v) (h : DataW.Trod enc P w base spare held t v d p) :
    ∃ (A : Option Addr) (cap : Nat) (L : List ByteArray), v = .slice A L.length cap ∧ L.length ≤ cap ∧ cap ≤ maxLen ∧ Rd w 1 A L.length (sv L) := by
  obtain ⟨a0, len, cap, rfl⟩ := okWide_slice ht hv
  obtain ⟨fuel, hf⟩ := h
  rcases open_slice ht hf with ⟨hcs, -⟩ | ⟨a, len', cap', m, n, D, Pl, hcs, -, hl, hm, hmm, -, hi⟩
  · simp [Value.cells] at hcs
    obtain ⟨rfl, rfl, rfl⟩ := hcs
    exact ⟨none, 0, [], rfl, Nat.le_refl _, by unfold maxLen; omega, Rd.nil⟩
  · simp [Value.cells] at hcs
    obtain ⟨rfl, rfl, rfl⟩ := hcs
    have hlm : len ≤ m := by rw [hmm]; split <;> omega
    have each : ∀ i, ∃ x : ByteArray, i < len → w.cell? (a.add i) = some (.string x) := by
      intro i
      by_cases hlt : i < len
      · obtain ⟨cs, hc, htr⟩ := hi i (by omega)
        obtain ⟨-, hl1, hat⟩ := World.cells?_some hc
        rw [hC] at hl1
        obtain ⟨v0, rfl⟩ : ∃ v0, cs = [v0] := by
          match cs, hl1 with
          | [v0], _ => exact ⟨v0, rfl⟩
        obtain ⟨s1, e1, -⟩ := DataW.trod_string he htr
        injection e1 with e1
        have h0 := hat 0 (by rw [hC]; omega)
        rw [add_twice, hC, Nat.mul_one, Nat.add_zero] at h0
        exact ⟨s1, fun _ => by rw [h0, ← e1]; rfl⟩
      · exact ⟨⟨#[]⟩, fun h => absurd h hlt⟩
    obtain ⟨f, hfx⟩ := Classical.axiomOfChoice each
    refine ⟨some a, cap, (List.range len).map f, by simp, by simpa using hl, hm, by rw [sv_len, Nat.mul_one], fun hn => ?_⟩
    have hn' : 0 < len := by simpa using hn
    refine ⟨a, rfl, Lib.lt_of_cell (a := a) (by have := hfx 0 hn'; simpa [Addr.add] using this), fun j u hu => ?_⟩
    have hj : j < ((List.range len).map f).length := by
      have := (List.getElem?_eq_some_iff.1 hu).1
      rwa [sv_len] at this
    have hil : j < len := by simpa using hj
    rw [sv_get hj] at hu
    have g0 := hfx j hil
    simp only [List.getElem_map, List.getElem_range] at hu
    rw [← hu]; exact g0
theorem open_nilL {t e : TypeId} {n cap : Nat} {d : DataW H} {p : List MemPlace} (ht : P.underlying t = some (.slice e)) (h : DataW.Trod enc P w base spare held t (.slice none n cap) d p) : cap = 0 := by
  obtain ⟨fuel, hf⟩ := h
  rcases open_slice ht hf with ⟨hcs, -⟩ | ⟨a, len', cap', m, n', D, Pl, hcs, -⟩
  · simp [Value.cells] at hcs; exact hcs.2
  · simp [Value.cells] at hcs
end
end Go.Proofs.YtlldjkhlhfnfeaaGreatDoor
