/- Facts on routes and rules in plain Lean: what decides among rules, and what a route in another list of entries does. No program. -/
import Derived.Test.YtlojeeakjgalpaaDoorAwf
namespace Rte
open Go Go.Sort Adr

theorem num_inj {l m : List UInt8} (h : 0 ≤ num l) (e : num l = num m) : l = m := by
  unfold num at h e
  split at h
  · rename_i hl
    rw [if_pos hl] at e
    split at e
    · rename_i hm
      obtain ⟨a1, -, a2, a3⟩ := (canon_iff l).1 hl
      obtain ⟨b1, -, b2, b3⟩ := (canon_iff m).1 hm
      rw [← dec_val l a1 a2 a3, ← dec_val m b1 b2 b3]
      congr 1
      omega
    · omega
  · omega

/-! ### The rule that decides -/
def mt (h : ByteArray) (fr dt : Int) (e : Ent) : Bool := isRule h e && both e fr dt
def pmStep (h : ByteArray) (fr dt : Int) (b : Option (Int × Bool)) (e : Ent) : Option (Int × Bool) :=
  if mt h fr dt e = true then (match b with | none => some (rule h e, acts e) | some (n, a) => if rule h e < n then some (rule h e, acts e) else some (n, a)) else b
def pm (L : List Ent) (h : ByteArray) (fr dt : Int) : Option (Int × Bool) := L.foldl (pmStep h fr dt) none
theorem pm_snoc (L : List Ent) (e : Ent) (h : ByteArray) (fr dt : Int) : pm (L ++ [e]) h fr dt = pmStep h fr dt (pm L h fr dt) e := by unfold pm; rw [List.foldl_append]; rfl
/-- By places. -/
theorem pm_idx (L : List Ent) (h : ByteArray) (fr dt : Int) :
    (pm L h fr dt = none ∧ ∀ j (hj : j < L.length), mt h fr dt L[j] = false) ∨
      ∃ i, ∃ hi : i < L.length, mt h fr dt L[i] = true ∧ pm L h fr dt = some (rule h L[i], acts L[i]) ∧ ∀ j (hj : j < L.length), mt h fr dt L[j] = true → (rule h L[i] < rule h L[j] ∨ rule h L[i] = rule h L[j] ∧ i ≤ j) := by
  induction L using snoc_ind with
  | h0 => exact .inl ⟨rfl, fun j hj => absurd hj (by simp)⟩
  | h1 L x ih =>
    have hlen : (L ++ [x]).length = L.length + 1 := by simp
    have old : ∀ j (hj : j < L.length), (L ++ [x])[j]'(by omega) = L[j] := fun j hj => by rw [List.getElem_append_left hj]
    have new : (L ++ [x])[L.length]'(by omega) = x := by simp
    rw [pm_snoc]
    unfold pmStep
    by_cases hx : mt h fr dt x = true
    · rw [if_pos hx]
      rcases ih with ⟨h1, h2⟩ | ⟨i, hi, h1, h2, h3⟩
      · rw [h1]
        refine .inr ⟨L.length, by omega, by rw [new]; exact hx, by rw [new], fun j hj hm => ?_⟩
        by_cases hjl : j < L.length
        · rw [old j hjl, h2 j hjl] at hm; cases hm
        · have hjn : j = L.length := by omega
          subst hjn
          exact .inr ⟨rfl, Nat.le_refl _⟩
      · rw [h2]
        by_cases hlt : rule h x < rule h L[i]
        · refine .inr ⟨L.length, by omega, by rw [new]; exact hx, by rw [new]; simp only [hlt, if_true], fun j hj hm => ?_⟩
          by_cases hjl : j < L.length
          · rw [old j hjl] at hm ⊢
            rw [new]
            have := h3 j hjl hm
            exact .inl (by omega)
          · have hjn : j = L.length := by omega
            subst hjn
            exact .inr ⟨rfl, Nat.le_refl _⟩
        · refine .inr ⟨i, by omega, by rw [old i hi]; exact h1, by rw [old i hi]; simp only [hlt, if_false], fun j hj hm => ?_⟩
          rw [old i hi]
          by_cases hjl : j < L.length
          · rw [old j hjl] at hm ⊢
            exact h3 j hjl hm
          · have hjn : j = L.length := by omega
            subst hjn
            rw [new]
            omega
    · have hf : mt h fr dt x = false := by simpa using hx
      rw [if_neg hx]
      rcases ih with ⟨h1, h2⟩ | ⟨i, hi, h1, h2, h3⟩
      · refine .inl ⟨h1, fun j hj => ?_⟩
        by_cases hjl : j < L.length
        · rw [old j hjl]; exact h2 j hjl
        · have hjn : j = L.length := by omega
          subst hjn; rw [new]; exact hf
      · refine .inr ⟨i, by omega, by rw [old i hi]; exact h1, by rw [old i hi]; exact h2, fun j hj hm => ?_⟩
        rw [old i hi]
        by_cases hjl : j < L.length
        · rw [old j hjl] at hm ⊢; exact h3 j hjl hm
        · have hjn : j = L.length := by omega
          subst hjn; rw [new, hf] at hm; cases hm
def permF (L : List Ent) (h : ByteArray) (fr dt : Int) : Bool := match pm L h fr dt with | none => true | some (_, a) => a
theorem mt_at {L : List Ent} {h : ByteArray} {fr dt : Int} {i : Nat} (hi : i < L.length) : mt h fr dt L[i] = (decide (0 < keyAt L h i) && bothAt L fr dt i) := by
  rw [keyAt_lt hi, bothAt_lt hi]
  unfold mt
  congr 1
  rw [Bool.eq_iff_iff, decide_eq_true_eq, rule_pos]
/-- What Permit answers is what the list's own search answers. -/
theorem permR_eq {L : List Ent} {h : ByteArray} {R : List Nat} (hR : RulesOf L h R) (fr dt : Int) : permR L fr dt R = permF L h fr dt := by
  unfold permR permF
  have hmem : ∀ i, i ∈ R ↔ i < L.length ∧ 0 < keyAt L h i := fun i => hR.1.mem_iff.trans mem_spots
  rcases pm_idx L h fr dt with ⟨h1, h2⟩ | ⟨i, hi, h1, h2, h3⟩
  · rw [h1]
    have : R.find? (bothAt L fr dt) = none := by
      rw [List.find?_eq_none]
      intro j hj
      obtain ⟨hjl, hjk⟩ := (hmem j).1 hj
      have := h2 j hjl
      rw [mt_at hjl, decide_eq_true hjk, Bool.true_and] at this
      simp [this]
    rw [this]
  · rw [h2]
    rw [mt_at hi] at h1
    simp only [Bool.and_eq_true, decide_eq_true_eq] at h1
    have hiR : i ∈ R := (hmem i).2 ⟨hi, h1.1⟩
    cases hf : R.find? (bothAt L fr dt) with
    | none => rw [List.find?_eq_none] at hf; exact absurd h1.2 (hf i hiR)
    | some j =>
      obtain ⟨hpj, xs, ys, hRe, has⟩ := List.find?_eq_some_iff_append.1 hf
      have hjR : j ∈ R := by rw [hRe]; simp
      obtain ⟨hjl, hjk⟩ := (hmem j).1 hjR
      have hji : i = j := by
        rw [hRe] at hiR
        rcases List.mem_append.1 hiR with ha | ha
        · have := has i ha; rw [h1.2] at this; cases this
        · rcases List.mem_cons.1 ha with ha | ha
          · exact ha
          · have hp := hR.2
            rw [hRe, List.pairwise_append] at hp
            have hs := (List.pairwise_cons.1 hp.2.1).1 i ha
            have hm := h3 j hjl (by rw [mt_at hjl]; simp only [Bool.and_eq_true, decide_eq_true_eq]; exact ⟨hjk, hpj⟩)
            unfold slt at hs
            rw [keyAt_lt hi, keyAt_lt hjl] at hs
            simp only [decide_eq_false_iff_not] at hs
            omega
      subst hji
      show actAt L i = acts L[i]
      exact actAt_lt hi

/-! ### What is of other hosts, and of other kinds -/
def own (h : ByteArray) (e : Ent) : Bool := decide (e.host = h) && (decide (e.kind = 4) || decide (e.kind = 5))
theorem foldl_keep {β : Type} (f : β → Ent → β) (p : Ent → Bool) (hf : ∀ b e, p e = false → f b e = b) : ∀ (L : List Ent) (b : β), (L.filter p).foldl f b = L.foldl f b
  | [], _ => rfl
  | e :: L, b => by
    cases hp : p e with
    | true => rw [List.filter_cons, hp]; exact foldl_keep f p hf L _
    | false => rw [List.filter_cons, hp]; show (L.filter p).foldl f b = L.foldl f (f b e); rw [hf b e hp]; exact foldl_keep f p hf L b
theorem own_hit {h : ByteArray} {ip : Int} {e : Ent} (ho : own h e = false) : hit h ip e = false := by
  unfold own at ho; unfold hit
  by_cases h1 : e.host = h
  · by_cases h2 : e.kind = 4
    · simp [h1, h2] at ho
    · simp [h2]
  · simp [h1]
theorem own_rule {h : ByteArray} {e : Ent} (ho : own h e = false) : isRule h e = false := by
  unfold own at ho; unfold isRule
  by_cases h1 : e.host = h
  · by_cases h2 : e.kind = 5
    · simp [h1, h2] at ho
    · simp [h2]
  · simp [h1]
theorem lk_own (L : List Ent) (h : ByteArray) (ip : Int) : lk (L.filter (own h)) h ip = lk L h ip := by
  unfold lk
  exact foldl_keep _ _ (fun b e ho => by unfold lkStep; rw [if_neg]; intro hc; rw [own_hit ho] at hc; cases hc.1) L _
theorem permF_own (L : List Ent) (h : ByteArray) (fr dt : Int) : permF (L.filter (own h)) h fr dt = permF L h fr dt := by
  have : pm (L.filter (own h)) h fr dt = pm L h fr dt := by
    unfold pm
    exact foldl_keep _ _ (fun b e ho => by unfold pmStep mt; rw [own_rule ho, Bool.false_and, if_neg (by decide)]) L _
  unfold permF; rw [this]

/-! ### Entries in any order -/
theorem in_unique {n n' b ip : Int} (h : isIn n b ip = true) (h' : isIn n' b ip = true) : n = n' := by
  unfold isIn at h h'
  simp only [Bool.and_eq_true, decide_eq_true_eq] at h h'
  obtain ⟨⟨⟨r, _⟩, _⟩, e⟩ := h
  obtain ⟨⟨⟨r', _⟩, _⟩, e'⟩ := h'
  unfold right at r r'
  simp only [Bool.and_eq_true, decide_eq_true_eq] at r r'
  have hd := Nat.div_add_mod n.toNat (2 ^ (32 - b.toNat))
  have hd' := Nat.div_add_mod n'.toNat (2 ^ (32 - b.toNat))
  rw [r.2, ← e] at hd
  rw [r'.2, ← e'] at hd'
  omega
/-- Each has a Key, and a prefix, of its own. -/
def Apart (L : List Ent) : Prop := ∀ i j (hi : i < L.length) (hj : j < L.length), j < i → L[i].key ≠ L[j].key ∧ ¬ (0 ≤ (pfx L[i]).1 ∧ pfx L[i] = pfx L[j])
theorem apart_pfx {L : List Ent} (H : Apart L) {x y : Ent} (hx : x ∈ L) (hy : y ∈ L) (h0 : 0 ≤ (pfx x).1) (e : pfx x = pfx y) : x = y := by
  obtain ⟨i, hi, rfl⟩ := List.getElem_of_mem hx
  obtain ⟨j, hj, rfl⟩ := List.getElem_of_mem hy
  rcases Nat.lt_trichotomy i j with h | h | h
  · exact absurd ⟨by rw [← e]; exact h0, e.symm⟩ (H j i hj hi h).2
  · subst h; rfl
  · exact absurd ⟨h0, e⟩ (H i j hi hj h).2
theorem apart_key {L : List Ent} (H : Apart L) {x y : Ent} (hx : x ∈ L) (hy : y ∈ L) (e : x.key = y.key) : x = y := by
  obtain ⟨i, hi, rfl⟩ := List.getElem_of_mem hx
  obtain ⟨j, hj, rfl⟩ := List.getElem_of_mem hy
  rcases Nat.lt_trichotomy i j with h | h | h
  · exact absurd e.symm (H j i hj hi h).1
  · subst h; rfl
  · exact absurd e (H i j hi hj h).1
theorem hit_pfx {h : ByteArray} {ip : Int} {e : Ent} (hh : hit h ip e = true) : isIn (pfx e).1 (pfx e).2 ip = true := by
  unfold hit at hh; simp only [Bool.and_eq_true] at hh; exact hh.2
theorem lk_turned {L T : List Ent} (H : Apart L) (hm : ∀ e, e ∈ T ↔ e ∈ L) (h : ByteArray) (ip : Int) : lk T h ip = lk L h ip := by
  rcases lk_spec L h ip with ⟨h1, h2⟩ | ⟨x, hx, h1, h2, h3⟩
  · rcases lk_spec T h ip with ⟨t1, -⟩ | ⟨y, hy, t1, -, -⟩
    · rw [h1, t1]
    · rw [h2 y ((hm y).1 hy)] at t1; cases t1
  · rcases lk_spec T h ip with ⟨-, t2⟩ | ⟨y, hy, t1, t2, t3⟩
    · rw [t2 x ((hm x).2 hx)] at h1; cases h1
    · have hyL := (hm y).1 hy
      have hb : (pfx x).2 = (pfx y).2 := by
        have a := h3 y hyL t1
        have b := t3 x ((hm x).2 hx) h1
        omega
      have i1 := hit_pfx h1
      have i2 := hit_pfx t1
      rw [← hb] at i2
      have hn := in_unique i1 i2
      have he := apart_pfx H hx hyL (hit_bits h1).1 (Prod.ext hn hb)
      subst he
      rw [h2, t2]
theorem pm_mem (L : List Ent) (h : ByteArray) (fr dt : Int) : (pm L h fr dt = none ∧ ∀ e ∈ L, mt h fr dt e = false) ∨ ∃ x ∈ L, mt h fr dt x = true ∧ pm L h fr dt = some (rule h x, acts x) ∧ ∀ e ∈ L, mt h fr dt e = true → rule h x ≤ rule h e := by
  rcases pm_idx L h fr dt with ⟨h1, h2⟩ | ⟨i, hi, h1, h2, h3⟩
  · refine .inl ⟨h1, fun e he => ?_⟩
    obtain ⟨j, hj, rfl⟩ := List.getElem_of_mem he
    exact h2 j hj
  · refine .inr ⟨L[i], List.getElem_mem hi, h1, h2, fun e he hm => ?_⟩
    obtain ⟨j, hj, rfl⟩ := List.getElem_of_mem he
    have := h3 j hj hm
    omega
theorem mt_rule {h : ByteArray} {fr dt : Int} {e : Ent} (hm : mt h fr dt e = true) : isRule h e = true := by
  unfold mt at hm; simp only [Bool.and_eq_true] at hm; exact hm.1
theorem rule_num {h : ByteArray} {e : Ent} (hr : isRule h e = true) : rule h e = num (bs e.key) ∧ 1 ≤ num (bs e.key) := by
  refine ⟨by unfold rule; rw [if_pos hr], ?_⟩
  unfold isRule at hr
  simp only [Bool.and_eq_true] at hr
  exact ((numIn_iff _ _ _).1 hr.1.1.1).2.1
theorem bs_inj {a b : ByteArray} (h : bs a = bs b) : a = b := Go.WideShapes.bytes_inj h
theorem permF_turned {L T : List Ent} (H : Apart L) (hm : ∀ e, e ∈ T ↔ e ∈ L) (h : ByteArray) (fr dt : Int) : permF T h fr dt = permF L h fr dt := by
  have : pm T h fr dt = pm L h fr dt := by
    rcases pm_mem L h fr dt with ⟨h1, h2⟩ | ⟨x, hx, h1, h2, h3⟩
    · rcases pm_mem T h fr dt with ⟨t1, -⟩ | ⟨y, hy, t1, -, -⟩
      · rw [h1, t1]
      · rw [h2 y ((hm y).1 hy)] at t1; cases t1
    · rcases pm_mem T h fr dt with ⟨-, t2⟩ | ⟨y, hy, t1, t2, t3⟩
      · rw [t2 x ((hm x).2 hx)] at h1; cases h1
      · have hyL := (hm y).1 hy
        have hn : rule h x = rule h y := by
          have a := h3 y hyL t1
          have b := t3 x ((hm x).2 hx) h1
          omega
        have rx := rule_num (mt_rule h1)
        have ry := rule_num (mt_rule t1)
        have he := apart_key H hx hyL (bs_inj (num_inj (by omega) (by omega)))
        subst he
        rw [h2, t2]
  unfold permF; rw [this]

/-! ### One more entry -/
def newR (h : ByteArray) (a : Nat) : Ent := ⟨h, 4, ⟨(preText a 32).toArray⟩, ⟨#[110, 101, 119]⟩⟩
theorem newR_pfx (h : ByteArray) (a : Nat) (ha : a < 4294967296) : pfx (newR h a) = ((a : Int), 32) := by
  unfold pfx newR bs
  rw [show (⟨(preText a 32).toArray⟩ : ByteArray).data.toList = preText a 32 by simp]
  have hr : right (a : Int) ((32 : Nat) : Int) = true := by
    unfold right
    simp only [Bool.and_eq_true, decide_eq_true_eq]
    refine ⟨⟨⟨⟨by omega, by omega⟩, by omega⟩, by omega⟩, ?_⟩
    simp [Nat.mod_one]
  exact pre_text a 32 hr
theorem in_32 (a b : Nat) (ha : a < 4294967296) (hb : b < 4294967296) : isIn (a : Int) 32 (b : Int) = decide (a = b) := by
  have := isIn_nat a 32 b
  rw [show ((32 : Nat) : Int) = 32 from rfl] at this
  rw [this]
  have hr : right (a : Int) 32 = true := by
    unfold right
    simp only [Bool.and_eq_true, decide_eq_true_eq]
    refine ⟨⟨⟨⟨by omega, by omega⟩, by omega⟩, by omega⟩, ?_⟩
    simp [Nat.mod_one]
  rw [hr, decide_eq_true hb, Bool.and_self, Bool.true_and, decide_eq_decide]
  simp only [Nat.sub_self, Nat.pow_zero, Nat.div_one]
  omega
theorem newR_hit (h : ByteArray) (a b : Nat) (ha : a < 4294967296) (hb : b < 4294967296) : hit h (b : Int) (newR h a) = decide (a = b) := by
  unfold hit
  rw [newR_pfx h a ha]
  show (decide (h = h) && decide ((4 : Int) = 4) && decide ((0 : Int) ≤ (a : Int)) && isIn (a : Int) 32 (b : Int)) = _
  rw [in_32 a b ha hb]
  simp
theorem lk_one (L : List Ent) (h : ByteArray) (a : Nat) (ha : a < 4294967296) (hk : ∀ e ∈ L, e.key ≠ (newR h a).key) : lk (L ++ [newR h a]) h (a : Int) = (32, ⟨#[110, 101, 119]⟩) := by
  rw [lk_snoc]
  unfold lkStep
  rw [newR_hit h a a ha ha, newR_pfx h a ha, if_pos]
  · rfl
  · refine ⟨by simp, ?_⟩
    show (lk L h (a : Int)).1 < 32
    rcases lk_spec L h (a : Int) with ⟨h1, -⟩ | ⟨x, hx, h1, h2, -⟩
    · rw [h1]; show (-1 : Int) < 32; omega
    · rw [h2]
      show (pfx x).2 < 32
      have hb := hit_bits h1
      rcases Int.lt_or_le (pfx x).2 32 with hlt | hle
      · exact hlt
      · exfalso
        have h32 : (pfx x).2 = 32 := by omega
        have hin := hit_pfx h1
        rw [h32] at hin
        have hn : (pfx x).1 = (a : Int) := in_unique hin (by rw [in_32 a a ha ha]; simp)
        obtain ⟨-, ht⟩ := pre_fore (bs x.key) hb.1
        refine hk x hx (bs_inj ?_)
        have e1 : (pre (bs x.key)).1 = (a : Int) := hn
        have e2 : (pre (bs x.key)).2 = 32 := h32
        rw [e1, e2] at ht
        unfold newR bs
        simpa using ht.symm
theorem lk_other (L : List Ent) (h : ByteArray) (a b : Nat) (ha : a < 4294967296) (hb : b < 4294967296) (hab : a ≠ b) : lk (L ++ [newR h a]) h (b : Int) = lk L h (b : Int) := by
  rw [lk_snoc]
  unfold lkStep
  rw [newR_hit h a b ha hb, if_neg]
  intro hc
  exact hab (by simpa using hc.1)
/-- A rule of the number 1 that takes all. -/
def newP (h : ByteArray) (p : Bool) : Ent := ⟨h, 5, ⟨#[49]⟩, if p then ⟨#[112, 101, 114, 109, 105, 116, 32, 97, 110, 121, 32, 97, 110, 121]⟩ else ⟨#[100, 101, 110, 121, 32, 97, 110, 121, 32, 97, 110, 121]⟩⟩
theorem newP_num : numIn [49] 1 1000 = true ∧ num [49] = 1 := by decide +kernel
theorem newP_words (h : ByteArray) (p : Bool) : words (newP h p) = [if p then bs sPermit else bs sDeny, bs sAny, bs sAny] := by
  cases p
  · show parts 32 [100, 101, 110, 121, 32, 97, 110, 121, 32, 97, 110, 121] = [bs sDeny, bs sAny, bs sAny]; decide +kernel
  · show parts 32 [112, 101, 114, 109, 105, 116, 32, 97, 110, 121, 32, 97, 110, 121] = [bs sPermit, bs sAny, bs sAny]; decide +kernel
theorem side_sAny : side (bs sAny) = true := by unfold side; simp
theorem takes_sAny (ip : Int) : takes (bs sAny) ip = true := by unfold takes; simp
theorem newP_rule (h : ByteArray) (p : Bool) : isRule h (newP h p) = true := by
  rw [Go.Proofs.YtlojeeakjgalpaaDoor.isRule_three (newP_words h p)]
  have h1 : numIn (bs (newP h p).key) 1 1000 = true := newP_num.1
  rw [h1, side_sAny]
  cases p <;> simp [newP]
theorem newP_one (h : ByteArray) (p : Bool) : rule h (newP h p) = 1 := (rule_num (newP_rule h p)).1.trans newP_num.2
theorem newP_mt (h : ByteArray) (p : Bool) (fr dt : Int) : mt h fr dt (newP h p) = true := by
  unfold mt
  rw [newP_rule, both_three (newP_words h p), takes_sAny, takes_sAny]; rfl
theorem newP_acts (h : ByteArray) (p : Bool) : acts (newP h p) = p := by
  rw [acts_three (newP_words h p)]
  cases p
  · decide
  · simp
theorem permF_one (L : List Ent) (h : ByteArray) (p : Bool) (fr dt : Int) (hk : ∀ e ∈ L, e.key ≠ (⟨#[49]⟩ : ByteArray)) : permF (L ++ [newP h p]) h fr dt = p := by
  unfold permF
  rw [pm_snoc]
  unfold pmStep
  rw [if_pos (newP_mt h p fr dt), newP_one, newP_acts]
  rcases pm_mem L h fr dt with ⟨h1, -⟩ | ⟨x, hx, h1, h2, -⟩
  · rw [h1]
  · rw [h2]
    have hr := rule_num (mt_rule h1)
    have hne : num (bs x.key) ≠ 1 := fun e => hk x hx (bs_inj (num_inj (by omega) (e.trans newP_num.2.symm)))
    have hlt : (1 : Int) < rule h x := by omega
    simp [hlt]
theorem spots_snoc (L : List Ent) (h : ByteArray) (x : Ent) (hr : isRule h x = true) : (spots (L ++ [x]) h).length = 1 + (spots L h).length := by
  have old : ∀ i, i < L.length → keyAt (L ++ [x]) h i = keyAt L h i := fun i hi => by
    rw [keyAt_lt hi, keyAt_lt (by simp; omega), List.getElem_append_left hi]
  unfold spots
  rw [show (L ++ [x]).length = L.length + 1 by simp, spotsTo_succ, if_pos]
  · rw [List.length_append]
    have : spotsTo (L ++ [x]) h L.length = spotsTo L h L.length := by
      unfold spotsTo
      exact List.filter_congr fun i hi => by rw [old i (List.mem_range.1 hi)]
    rw [this]; simp; omega
  · rw [keyAt_lt (by simp)]
    have : (L ++ [x])[L.length]'(by simp) = x := by simp
    rw [this]
    exact (rule_pos h x).2 hr
end Rte
