/- Plain: the document's answer for the faults of a tree. Plain: a tree without faults has none without some of its parts. Steps of a region that draws: an append of one string, of one element that begins with a path. -/
import Derived.Deep.AppendLies
import Derived.Test.YtjdknhalcpkeaaaGreatDoorJ20
import Derived.Test.YtjdknhalcpkeaaaGreatDoorJ16
namespace Sch
open Go Go.Lib Adr Mtr Tre
def noB : ByteArray := ⟨#[]⟩
theorem known_eq {P : List ByteArray} (h0 : P ≠ []) (ha : aliveP P = true) :
 (ruleOf P = none ∧ knownB P ≠ 0 ∧ unknownOf P = knownB P) ∨ (∃ r, ruleOf P = some r ∧ knownB P = 0) := by
 rw [alive_iff] at ha
 rcases P with _ | ⟨a, _ | ⟨b, _ | ⟨c, _ | ⟨d, _ | ⟨e, l⟩⟩⟩⟩⟩
 · exact absurd rfl h0
 · rw [rule_1, form_1]
   show _ ∨ ∃ r, _ ∧ (if secondB a = ⟨#[]⟩ then (3 : Int) else 0) = 0
   show (_ ∧ (if secondB a = ⟨#[]⟩ then (3 : Int) else 0) ≠ 0 ∧ _ = (if secondB a = ⟨#[]⟩ then (3 : Int) else 0)) ∨ _
   by_cases h : secondB a = ⟨#[]⟩
   · rw [if_pos h, if_pos h]; exact .inl ⟨rfl, by decide, rfl⟩
   · rw [if_neg h, if_neg h]; exact .inr ⟨_, rfl, rfl⟩
 · have h1 : known [a] = true := ha 1 (by omega) (by simp)
   unfold known at h1
   rw [rule_1] at h1
   by_cases h : secondB a = ⟨#[]⟩
   · rw [if_pos h] at h1; cases h1
   rw [rule_2, form_2 a b h]
   show (_ ∧ (if typeB (secondB a) b = true then (0 : Int) else 2) ≠ 0 ∧ _ = (if typeB (secondB a) b = true then (0 : Int) else 2)) ∨ ∃ r, _ ∧ (if typeB (secondB a) b = true then (0 : Int) else 2) = 0
   by_cases k : typeB (secondB a) b = true
   · rw [if_pos k, if_pos k]; exact .inr ⟨_, rfl, rfl⟩
   · rw [if_neg k, if_neg k]; exact .inl ⟨rfl, by decide, rfl⟩
 · have h1 : known [a, b] = true := ha 2 (by omega) (by simp)
   unfold known at h1
   rw [rule_2] at h1
   by_cases h : typeB (secondB a) b = true
   · rw [rule_3, form_3, h]
     show (_ ∧ (if (thirdB a c).1 = ⟨#[]⟩ then (3 : Int) else 0) ≠ 0 ∧ _ = (if (thirdB a c).1 = ⟨#[]⟩ then (3 : Int) else 0)) ∨ ∃ r, _ ∧ (if (thirdB a c).1 = ⟨#[]⟩ then (3 : Int) else 0) = 0
     by_cases k : (thirdB a c).1 = ⟨#[]⟩
     · rw [if_pos k, if_neg (by simp [k])]; exact .inl ⟨rfl, by decide, rfl⟩
     · rw [if_neg k, if_pos (by simp [k])]; exact .inr ⟨_, rfl, rfl⟩
   · rw [if_neg h] at h1; cases h1
 · have h1 : known [a, b, c] = true := ha 3 (by omega) (by simp)
   unfold known at h1
   rw [rule_3] at h1
   by_cases h : (typeB (secondB a) b && !(decide ((thirdB a c).1 = ⟨#[]⟩))) = true
   · rw [Bool.and_eq_true] at h
     have hk : (thirdB a c).1 ≠ ⟨#[]⟩ := by simpa using h.2
     rw [rule_4, form_4 a b c d h.1 hk, h.1]
     show (_ ∧ (if typeB (thirdB a c).1 d = true then (0 : Int) else 2) ≠ 0 ∧ _ = (if typeB (thirdB a c).1 d = true then (0 : Int) else 2)) ∨ ∃ r, _ ∧ (if typeB (thirdB a c).1 d = true then (0 : Int) else 2) = 0
     by_cases k : typeB (thirdB a c).1 d = true
     · rw [if_pos k, if_pos (by simp [k])]; exact .inr ⟨_, rfl, rfl⟩
     · rw [if_neg k, if_neg (by simp [k])]; exact .inl ⟨rfl, by decide, rfl⟩
   · rw [if_neg h] at h1; cases h1
 · have hl : 4 < (a :: b :: c :: d :: e :: l).length := by simp
   rw [rule_long hl, form_long hl]
   exact .inl ⟨rfl, (by decide : (3 : Int) ≠ 0), rfl⟩
theorem ip_chars (n : Nat) : ∀ c ∈ ipText n, isDig c = true ∨ c = 46 := by
 intro c h
 have f := fun k (hk : c ∈ decDigits k) => List.all_eq_true.1 (dec_digits k) c hk
 unfold ipText at h
 rw [glue_more, glue_more, glue_more, glue_one] at h
 simp only [List.mem_append, List.mem_cons] at h
 rcases h with h | h | h | h | h | h | h
 all_goals first | exact .inl (f _ h) | exact .inr h
theorem ip_head {l : List UInt8} (h : 0 ≤ ip (36 :: l)) : False := by
 have := ip_chars (ip (36 :: l)).toNat 36 (by rw [(ip_fore _ h).2]; simp)
 revert this; decide
theorem ip_type {s : ByteArray} (h : 0 ≤ ip s.data.toList) : isType s = false := by
 cases hs : isType s with
 | false => rfl
 | true =>
   unfold isType hasPrefix at hs
   cases hl : s.data.toList with
   | nil => rw [hl] at hs; simp at hs
   | cons c l =>
     rw [hl] at hs h
     simp at hs
     subst hs
     exact (ip_head h).elim
theorem type_ip (w : ByteArray) : typeB tIp w = decide (0 ≤ ip w.data.toList) := by
 unfold typeB
 rw [if_neg (by decide +kernel), if_pos rfl]
def rtest (s : ByteArray) (Q : List ByteArray) : Bool :=
 decide (Q.length = 4) && (decide (Q.getD 0 noB = wHosts) && (nameB (Q.getD 1 noB).data.toList && (decide (Q.getD 2 noB = wIp) && decide (Q.getD 3 noB = s))))
theorem type_name (w : ByteArray) : typeB tName w = nameB w.data.toList := by
 unfold typeB
 rw [if_pos rfl]
theorem rtest_eq {s : ByteArray} (hs : isType s = false) (Q : List ByteArray) : matchB [wHosts, tName, wIp, s] Q = rtest s Q := by
 rcases Q with _ | ⟨a, _ | ⟨b, _ | ⟨c, _ | ⟨d, _ | ⟨e, l⟩⟩⟩⟩⟩
 · rw [match_cons_nil]; rfl
 · rw [match_cons, match_cons_nil, Bool.and_false]; rfl
 · rw [match_cons, match_cons, match_cons_nil, Bool.and_false, Bool.and_false]; rfl
 · rw [match_cons, match_cons, match_cons, match_cons_nil, Bool.and_false, Bool.and_false, Bool.and_false]; rfl
 · rw [match_cons, match_cons, match_cons, match_cons, match_nil, Bool.and_true, fits_wHosts, fits_tName, fits_wIp, fits_w hs, type_name]; rfl
 · rw [match_short (by simp)]
   unfold rtest
   rw [decide_eq_false (by simp), Bool.false_and]
def refTwFrom (L : List Line) (s : ByteArray) (k : Nat) : Nat → Bool
 | 0 => false
 | n + 1 => rtest s (pathB L k) || refTwFrom L s (k + 1) n
def refTwB (L : List Line) (i : Nat) (s : ByteArray) : Bool := refTwFrom L s 0 i
theorem tw_ref {s : ByteArray} (hs : isType s = false) (L : List Line) : ∀ n k, twiceFrom L s k n = refTwFrom L s k n := by
 intro n
 induction n with
 | zero => intro k; rfl
 | succ n ih => intro k; unfold twiceFrom refTwFrom; rw [rtest_eq hs, ih]
def refOutB (L : List Line) (s vni : ByteArray) : Bool :=
 match findB L [wVnis, vni, wSubnet] with
 | none => false
 | some n => match kidsB L n with
   | [] => false
   | k :: _ => decide (0 ≤ (pre (wordAt L k).data.toList).1) && !(isIn (pre (wordAt L k).data.toList).1 (pre (wordAt L k).data.toList).2 (ip s.data.toList))
theorem out_ref {s : ByteArray} (hs : 0 ≤ ip s.data.toList) (L : List Line) (vni : ByteArray) : outsideB L s vni = refOutB L s vni := by
 unfold outsideB refOutB
 rw [show max (ip s.data.toList) 0 = ip s.data.toList by omega]
 cases findB L [wVnis, vni, wSubnet] with
 | none => rfl
 | some n =>
   show (match kidsB L n with | [] => false | k :: _ => _) = (match kidsB L n with | [] => false | k :: _ => _)
   cases kidsB L n <;> rfl
def refMeantB (L : List Line) (i : Nat) (P : List ByteArray) : Bool :=
 if P.getD 0 noB = wHosts ∧ P.getD 2 noB = wIp then refTwB L i (P.getD 3 noB)
 else if P.getD 0 noB = wBind ∧ P.getD 2 noB = wHost ∨ P.getD 0 noB = wRoutes ∧ P.getD 2 noB = wVia then !(isThere L wHosts (P.getD 3 noB))
 else if P.getD 0 noB = wHosts ∧ P.getD 2 noB = wVnis then !(isThere L wVnis (P.getD 3 noB))
 else if P.getD 0 noB = wBind ∧ P.getD 2 noB = wVni then !(isThere L wVnis (P.getD 3 noB)) || refOutB L (P.getD 1 noB) (P.getD 3 noB)
 else false
def refOneF (L : List Line) (i : Nat) (P : List ByteArray) : List Fault :=
 if P.length = 3 ∧ (thirdB (P.getD 0 noB) (P.getD 2 noB)).2.1 = true then (if (kidsB L i).length = 0 then [(P, 1)] else if 1 < (kidsB L i).length then [(P, 4)] else []) else []
def refMissF (L : List Line) (i : Nat) (P : List ByteArray) : List Fault := if P.length = 2 then missF L i P (needs2 (P.getD 0 noB)) else []
def refMeantF (L : List Line) (i : Nat) (P : List ByteArray) : List Fault := if P.length = 4 ∧ refMeantB L i P = true then [(P, 7)] else []
def refLineF (L : List Line) (i : Nat) (P : List ByteArray) : List Fault := refOneF L i P ++ refMissF L i P ++ refMeantF L i P
theorem meant_words : ∀ r ∈ rulesB, r.path.length = 4 → (glueB r.path = m1 ↔ r.path.getD 0 noB = wHosts ∧ r.path.getD 2 noB = wIp) ∧ (glueB r.path = m2 ↔ r.path.getD 0 noB = wBind ∧ r.path.getD 2 noB = wHost) ∧
 (glueB r.path = m3 ↔ r.path.getD 0 noB = wRoutes ∧ r.path.getD 2 noB = wVia) ∧ (glueB r.path = m4 ↔ r.path.getD 0 noB = wHosts ∧ r.path.getD 2 noB = wVnis) ∧ (glueB r.path = m5 ↔ r.path.getD 0 noB = wBind ∧ r.path.getD 2 noB = wVni) := by decide +kernel
theorem meant_no {L : List Line} {i : Nat} {r : Rule} {P : List ByteArray} (hr : r ∈ rulesB) (h : r.path.length ≠ 4) : meantB L i r.path P = false := by
 have hm := meant_four r hr
 unfold meantB
 rw [if_neg fun e => h (hm (.inl e)), if_neg (by rintro (e | e); exact h (hm (.inr (.inl e))); exact h (hm (.inr (.inr (.inl e))))), if_neg fun e => h (hm (.inr (.inr (.inr (.inl e))))), if_neg fun e => h (hm (.inr (.inr (.inr (.inr e)))))]
theorem ref_line {L : List Line} {i : Nat} {P : List ByteArray} {r : Rule} (h : ruleOf P = some r) : lineF L i r P = refLineF L i P := by
 have hm : r ∈ rulesB := List.mem_of_find?_eq_some h
 unfold lineF refLineF refOneF refMissF refMeantF
 rcases P with _ | ⟨a, _ | ⟨b, _ | ⟨c, _ | ⟨d, _ | ⟨e, l⟩⟩⟩⟩⟩
 · rw [rule_0] at h; cases h
 · rw [rule_1] at h
   by_cases k : secondB a = ⟨#[]⟩
   · rw [if_pos k] at h; cases h
   rw [if_neg k] at h
   injection h with h
   subst h
   unfold meantF
   rw [oneF_no rfl, needs_other (by simp), meant_no hm (by simp), if_neg (show ¬ ([a].length = 3 ∧ _) by simp), if_neg (show ¬ [a].length = 2 by simp), if_neg (show ¬ ([a].length = 4 ∧ _) by simp)]; rfl
 · rw [rule_2] at h
   by_cases k : typeB (secondB a) b = true
   · rw [if_pos k] at h
     injection h with h
     subst h
     unfold meantF
     rw [oneF_no rfl, needs_2, if_pos k, meant_no hm (by simp), if_neg (show ¬ ([a, b].length = 3 ∧ _) by simp), if_pos (show [a, b].length = 2 by simp), if_neg (show ¬ ([a, b].length = 4 ∧ _) by simp)]; rfl
   · rw [if_neg k] at h; cases h
 · rw [rule_3] at h
   by_cases k : (typeB (secondB a) b && !(decide ((thirdB a c).1 = ⟨#[]⟩))) = true
   · rw [if_pos k] at h
     injection h with h
     subst h
     unfold meantF
     rw [needs_other (by simp), meant_no hm (by simp), if_neg (show ¬ [a, b, c].length = 2 by simp), if_neg (show ¬ ([a, b, c].length = 4 ∧ _) by simp)]
     unfold oneF
     show (if ((thirdB a c).2.1 && _) = true then _ else if ((thirdB a c).2.1 && _) = true then _ else _) ++ _ ++ _ = (if _ ∧ (thirdB a c).2.1 = true then _ else _) ++ _ ++ _
     by_cases hx : (thirdB a c).2.1 = true
     · simp [missF, hx]
     · rw [Bool.not_eq_true] at hx
       simp [missF, hx]
   · rw [if_neg k] at h; cases h
 · rw [rule_4] at h
   by_cases k : (typeB (secondB a) b && typeB (thirdB a c).1 d) = true
   · rw [if_pos k] at h
     injection h with h
     subst h
     rw [Bool.and_eq_true] at k
     obtain ⟨k1, k2⟩ := k
     rw [oneF_no rfl, needs_other (by simp), if_neg (show ¬ ([a, b, c, d].length = 3 ∧ _) by simp), if_neg (show ¬ [a, b, c, d].length = 2 by simp)]
     unfold meantF
     have hw := meant_words _ hm rfl
     have e : meantB L i [a, secondB a, c, (thirdB a c).1] [a, b, c, d] = refMeantB L i [a, b, c, d] := by
      unfold meantB refMeantB
      simp only [hw.1, hw.2.1, hw.2.2.1, hw.2.2.2.1, hw.2.2.2.2]
      show (if a = wHosts ∧ c = wIp then twiceB L i d else if a = wBind ∧ c = wHost ∨ a = wRoutes ∧ c = wVia then _ else if a = wHosts ∧ c = wVnis then _ else if a = wBind ∧ c = wVni then _ || outsideB L b d else _) = (if a = wHosts ∧ c = wIp then refTwB L i d else if a = wBind ∧ c = wHost ∨ a = wRoutes ∧ c = wVia then _ else if a = wHosts ∧ c = wVnis then _ else if a = wBind ∧ c = wVni then _ || refOutB L b d else _)
      by_cases c1 : a = wHosts ∧ c = wIp
      · rw [if_pos c1, if_pos c1]
        obtain ⟨rfl, rfl⟩ := c1
        rw [third_hosts_wIp] at k2
        have k2 : typeB tIp d = true := k2
        rw [type_ip, decide_eq_true_eq] at k2
        exact tw_ref (ip_type k2) L i 0
      · rw [if_neg c1, if_neg c1]
        by_cases c5 : a = wBind ∧ c = wVni
        · rw [if_pos c5, if_pos c5]
          obtain ⟨rfl, rfl⟩ := c5
          rw [second_bind] at k1
          rw [type_ip, decide_eq_true_eq] at k1
          rw [out_ref k1]; rfl
        · rw [if_neg c5, if_neg c5]; rfl
     rw [e]
     cases refMeantB L i [a, b, c, d] <;> simp [missF]
   · rw [if_neg k] at h; cases h
 · rw [rule_long (by simp)] at h; cases h
theorem pa_ne {L : List Line} (hr : rightB L = true) {i : Nat} (hi : i < L.length) : pa L i ≠ [] := fun e => by
 have := pa_len (right_parts hr).2.1 hi
 rw [e] at this; simp at this
theorem ref_known {L : List Line} (hr : rightB L = true) {i : Nat} (hi : i < L.length) (ha : aliveP (pa L i) = true) (hk : knownB (pa L i) = 0) : checkTo L (i + 1) = checkTo L i ++ refLineF L i (pa L i) ∧ known (pa L i) = true := by
 rcases known_eq (pa_ne hr hi) ha with ⟨-, h, -⟩ | ⟨r, h, -⟩
 · exact absurd hk h
 · exact ⟨by rw [check_known ha h, ref_line h], by unfold known; rw [h]; rfl⟩
theorem ref_skip {L : List Line} (hr : rightB L = true) {i : Nat} (hi : i < L.length) (ha : aliveP (pa L i) = true) (hk : knownB (pa L i) ≠ 0) : checkTo L (endB L i) = checkTo L i ++ [(pa L i, knownB (pa L i))] := by
 rcases known_eq (pa_ne hr hi) ha with ⟨h, -, h2⟩ | ⟨r, -, h2⟩
 · rw [check_skip hr hi ha h, h2]
 · exact absurd h2 hk
end Sch
namespace Sch
open Go Go.Lib Adr Mtr Tre
theorem faults_same {S S' : List (List ByteArray)} {P : List ByteArray} (h1 : kw S' P = kw S P) (h2 : ∀ d, thereS S' wHosts d = thereS S wHosts d) (h3 : ∀ d, thereS S' wVnis d = thereS S wVnis d)
 (h4 : ∀ v, memB [wVnis, v, wSubnet] S' = memB [wVnis, v, wSubnet] S) (h5 : ∀ v, kw S' [wVnis, v, wSubnet] = kw S [wVnis, v, wSubnet]) (h6 : ∀ s, twS S' P s = twS S P s) : faultsS S' P = faultsS S P := by
 have ho : ∀ a b, outS S' a b = outS S a b := fun a b => by unfold outS; rw [h4, h5]
 have hm : ∀ p, meantS S' p P = meantS S p P := fun p => by unfold meantS; rw [h6, h2, h3, ho]
 unfold faultsS lineS
 cases ruleOf P with
 | none => rfl
 | some r =>
   show (if aliveP P = true then oneS (kw S' P) r P ++ missS (kw S' P) P ++ (if meantS S' r.path P = true then [(P, 7)] else []) else []) = (if aliveP P = true then oneS (kw S P) r P ++ missS (kw S P) P ++ (if meantS S r.path P = true then [(P, 7)] else []) else [])
   rw [h1, hm]
theorem match_hosts {s : ByteArray} {Q : List ByteArray} (h : matchB [wHosts, tName, wIp, s] Q = true) : ∃ l, Q = wHosts :: l := by
 cases Q with
 | nil => cases h
 | cons a l =>
   rw [match_cons, Bool.and_eq_true, fits_wHosts, decide_eq_true_eq] at h
   exact ⟨l, by rw [h.1]⟩
end Sch
namespace Go.Proofs.YtjdknhalcpkeaaaGreatDoor
open Go Go.RowKit Tre
theorem below_new (w : World) (o : Obj) : Below w.heap.size w (w.alloc o) := (Below.refl _ _).alloc (Nat.le_refl _) _
theorem cells_at (w : World) (cs : Array Value) (T : TypeId) : ∀ j z, cs.toList[j]? = some z → (w.alloc (.cells cs T)).cell? ((⟨w.heap.size, 0, none⟩ : Addr).add j) = some z := fun j z hz => by
 rw [add_plain, Nat.zero_add, World.cell?_alloc_at _ _ _ _ rfl]
 simpa using hz
theorem step_push {P : Program} {ops : Array Oper} {o : Oper} {a : Act} {K : Act → World → Prop} {Q : Exit → Act → World → Prop} {E : Prop} (hgd : o.guard = none) (s x : Operand) (t : TypeId)
 (ho : o.op = .call { callee := .builtin .append, args := #[s, x], argTypes := #[t, t] }) (e : TypeId) (i : TypeInfo) (z : Value) (ht : P.underlying t = some (.slice e)) (hi : P.info? e = some i) (hz : i.zero = some z)
 (hsize : i.size = 1) (hby : i.bytes = 16) (hzs : z.cells.size = 1) {w0 w : World} {v : Value} {L : List ByteArray} (hs : a.eval s = v) (hown : w.ownsRow w0.heap.size e 1 v L.length (sv L)) (hb : Below w0.heap.size w0 w) (hL : L.length ≤ 1000000)
 (u : ByteArray) (ad : Addr) (c : Nat) (hx : a.eval x = .slice (some ad) 1 c) (hc : w.cell? ad = some (.string u))
 (h : ∀ g c' w', Pv w' (.slice (some ⟨g, 0, none⟩) (L.length + 1) c') (L ++ [u]) → Below w0.heap.size w0 w' → K (a.put o.dst (.slice (some ⟨g, 0, none⟩) (L.length + 1) c')) w') :
 if Region.wanted o (yielded ops a.tmps) = true then Oper.wp P o a w K Q else E := by
 refine step_append_lies w hgd s x t ho w0.heap.size e i z 1 16 ht hi hz hsize hby hzs (by decide) v L.length (sv L) hs hown ad 1 c [.string u] hx rfl ?_ ?_ (by decide) (by unfold maxLen; omega) (by omega) hb.size w.heap.size rfl ?_
 · intro j y hy
   obtain ⟨rfl, rfl⟩ : j = 0 ∧ y = .string u := by
    have := (List.getElem?_eq_some_iff.1 hy).1
    simp at this
    subst this
    simp at hy
    exact ⟨rfl, hy.symm⟩
   have hs := World.cell?_spot hc
   obtain ⟨B, O, sp⟩ := ad
   obtain rfl : sp = none := hs
   rw [add_plain]; exact hc
 · intro y hy
   rw [List.mem_singleton.1 hy]; rfl
 · intro g cap w' h2 h3 h4 h5
   have h2' := h2
   have hl : (L ++ [u]).length = L.length + 1 := by simp
   refine h g cap w' ?_ (hb.grown h3 hb.size fun q hq => (hown.lt q hq).1)
   rw [show sv L ++ [Value.string u] = sv (L ++ [u]) by rw [sv_app]; rfl] at h2'
   obtain ⟨A, c', e', h6, h7, h8, -⟩ := own_rd_nil h2'
   injection e' with e1 e2 e3
   subst e1 e3
   exact ⟨g, cap, by rw [hl], by rw [hl]; exact h6, h7, by rw [hl]; omega, by rw [hl]; exact h8⟩
theorem step_item {P : Program} {ops : Array Oper} {o : Oper} {a : Act} {K : Act → World → Prop} {Q : Exit → Act → World → Prop} {E : Prop} (hgd : o.guard = none) (s x : Operand) (t : TypeId)
 (ho : o.op = .call { callee := .builtin .append, args := #[s, x], argTypes := #[t, t] }) (e : TypeId) (i : TypeInfo) (z : Value) (k bytes : Nat) (ht : P.underlying t = some (.slice e)) (hi : P.info? e = some i) (hz : i.zero = some z)
 (hsize : i.size = k) (hby : i.bytes = bytes) (hzs : z.cells.size = k) (hsz : 0 < k) (hb64 : bytes ≤ 64) {w0 w : World} {v : Value} {xs : List Item} (hs : a.eval s = v) (hown : Pl w w0.heap.size e k v xs) (hb : Below w0.heap.size w0 w)
 (u : Value) (y : Item) (hy : y.2.length + 1 = k) (hy1 : ∀ c ∈ y.2, c.oneCell' = true) (hu : Pv w u y.1) (ad : Addr) (c : Nat) (hx : a.eval x = .slice (some ad) 1 c) (hc : ∀ j z, (u :: y.2)[j]? = some z → w.cell? (ad.add j) = some z) (hN : xs.length + 1 ≤ 1000000000)
 (h : ∀ v' w', Pl w' w0.heap.size e k v' (xs ++ [y]) → Below w0.heap.size w0 w' → K (a.put o.dst v') w') :
 if Region.wanted o (yielded ops a.tmps) = true then Oper.wp P o a w K Q else E := by
 have hbytes : (xs.length + 1) * bytes ≤ 140737488355328 := Nat.le_trans (Nat.mul_le_mul hN hb64) (by decide)
 have hP := hown
 obtain ⟨-, -, vs, h3, h4⟩ := hP
 refine step_append_lies w hgd s x t ho w0.heap.size e i z k bytes ht hi hz hsize hby hzs hsz v xs.length (icells vs xs) hs h4 ad 1 c (u :: y.2) hx (by simp; omega) hc ?_ (by decide) (by unfold maxLen; omega) hbytes hb.size w.heap.size rfl ?_
 · intro c hc
   rcases List.mem_cons.1 hc with rfl | hc
   · exact hu.one
   · exact hy1 c hc
 · intro g cap w' h2 hg _ _
   refine h _ w' ?_ (hb.grown hg hb.size fun q hq => (h4.lt q hq).1)
   refine ⟨fun c hc => ?_, fun e => by simp at e, vs ++ [u], ?_, ?_⟩
   · rcases List.mem_append.1 hc with hc | hc
     · exact hown.1 c hc
     · rw [List.mem_singleton.1 hc]; exact hy
   · have e1 : Pvs w' vs xs := ⟨h3.1, fun i hi hv => (h3.2 i hi hv).kept hg (own_apart hown hsz (h3.2 i hi hv))⟩
     exact e1.append (Pvs.single (hu.kept hg (own_apart hown hsz hu)))
   · rw [icells_append h3.1, icells_one, List.length_append]
     exact h2
end Go.Proofs.YtjdknhalcpkeaaaGreatDoor
