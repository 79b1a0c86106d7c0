/- Walks: schema.line. Plain: the faults of a tree, line by line, and by its paths. Plain: a tree made of its paths; trees with some paths less, or one more. -/
import Derived.Deep.RegionHeld3
import Derived.Deep.AppendLies
import Derived.Test.YtjdknhalcpkeaaaGreatDoorJ19
namespace Sch
open Go Go.Lib Adr Mtr Tre
abbrev Fault := List ByteArray × Int
def fitem (f : Fault) : List ByteArray × List Value := (f.1, [.int .i64 f.2])
def kidIs (L : List Line) (s : ByteArray) (k : Nat) : Bool := decide (wordAt L k = s)
def kidHas (L : List Line) (i : Nat) (s : ByteArray) : Bool := (kidsB L i).any (kidIs L s)
def oneF (L : List Line) (i : Nat) (r : Rule) (P : List ByteArray) : List Fault :=
 if r.one && decide ((kidsB L i).length = 0) then [(P, 1)] else if r.one && decide (1 < (kidsB L i).length) then [(P, 4)] else []
def missF (L : List Line) (i : Nat) (P : List ByteArray) (W : List ByteArray) : List Fault := (W.filter fun s => !(kidHas L i s)).map fun s => (P ++ [s], 1)
def meantF (L : List Line) (i : Nat) (r : Rule) (P : List ByteArray) : List Fault := if meantB L i r.path P then [(P, 7)] else []
def lineF (L : List Line) (i : Nat) (r : Rule) (P : List ByteArray) : List Fault := oneF L i r P ++ missF L i P (needsOf P) ++ meantF L i r P
theorem oneF_no {L : List Line} {i : Nat} {r : Rule} {P : List ByteArray} (h : r.one = false) : oneF L i r P = [] := by unfold oneF; rw [h]; rfl
theorem missF_snoc (L : List Line) (i : Nat) (P W : List ByteArray) (s : ByteArray) : missF L i P (W ++ [s]) = missF L i P W ++ (if kidHas L i s then [] else [(P ++ [s], 1)]) := by
 unfold missF
 rw [List.filter_append, List.map_append]
 cases h : kidHas L i s <;> simp [h]
theorem missF_len (L : List Line) (i : Nat) (P W : List ByteArray) : (missF L i P W).length ≤ W.length := by
 unfold missF; rw [List.length_map]; exact List.length_filter_le _ _
def firstAt (f : Nat → Bool) : Nat → List Nat → Int
 | _, [] => -1
 | j, k :: l => if f k then (j : Int) else firstAt f (j + 1) l
theorem firstAt_any {f : Nat → Bool} : ∀ (l : List Nat) (j : Nat), decide (0 ≤ firstAt f j l) = l.any f
 | [], j => rfl
 | k :: l, j => by
   unfold firstAt
   cases h : f k with
   | true => simp [h]
   | false => simp only [Bool.false_eq_true, if_false, List.any_cons, h, Bool.false_or]; exact firstAt_any l (j + 1)
theorem firstAt_lo {f : Nat → Bool} : ∀ (l : List Nat) (j : Nat), -1 ≤ firstAt f j l
 | [], j => by unfold firstAt; omega
 | k :: l, j => by
   unfold firstAt
   split
   · omega
   · exact firstAt_lo l (j + 1)
theorem firstAt_drop {f : Nat → Bool} {l : List Nat} {j : Nat} (h : j < l.length) : firstAt f j (l.drop j) = if f l[j] then (j : Int) else firstAt f (j + 1) (l.drop (j + 1)) := by
 rw [List.drop_eq_getElem_cons h]; rfl
end Sch
namespace Go.Proofs.YtjdknhalcpkeaaaGreatDoor
open Go Go.RowKit Go.Sort Sch Adr Mtr Tre
set_option maxHeartbeats 1000000 in
set_option maxRecDepth 100000 in
theorem line1_any (A : Option Addr) (cap : Nat) (L : List Line) (k pt pw : Nat) (s : ByteArray) (w : World) (hR : Rd w 3 A L.length (lines L)) (_hc : cap ≤ maxLen) (_hcap : L.length ≤ cap) (hk : k < L.length) (ht : w.cell? ⟨pt, 0, none⟩ = some (.slice A L.length cap)) (hw : w.cell? ⟨pw, 0, none⟩ = some (.string s)) :
 Calls Tryz.prog 100 #[.int .i64 k, .pointer (some ⟨pt, 0, none⟩), .pointer (some ⟨pw, 0, none⟩)] w fun e w' => e = .returned (.bool (kidIs L s k)) ∧ Below w.heap.size w w' := by
 unfold maxLen at _hc
 obtain ⟨B, O, rfl, hab, hadd, x0, x1, x2⟩ := hR.line hk
 have HX : Hid (kidIs L s k = (L[k].word.toList == s.toList)) := by show _ = _; unfold kidIs; rw [wordAt_lt hk, eq_bytes]
 generalize L[k].word = u at *
 have hki : (k : Int) < (L.length : Int) := by omega
 have hk0 : (0 : Int) ≤ (k : Int) := by omega
 clear hR x0 x2 hab
 go_enter Tryz.func100, Tryz.ntmps100
 go_wp2_with fail
 go_quiet (fail)
 go_wp2
 go_ret
 exact ⟨ret_bool HX.out.symm, below_drewN (Below.refl _ _) _⟩
set_option maxHeartbeats 2000000 in
set_option maxRecDepth 100000 in
theorem indexKids_any (A : Option Addr) (cap : Nat) (L : List Line) (pt pw : Nat) (s : ByteArray) (Ak : Option Addr) (ck : Nat) (K : List Nat) (w : World) (hR : Rd w 3 A L.length (lines L)) (hc : cap ≤ maxLen) (hcap : L.length ≤ cap) (hK : ∀ k ∈ K, k < L.length) (ht : w.cell? ⟨pt, 0, none⟩ = some (.slice A L.length cap)) (hw : w.cell? ⟨pw, 0, none⟩ = some (.string s))
 (hRk : Rd w 1 Ak K.length (iv K)) (hkl : K.length ≤ 100000) :
 Calls Tryz.prog 139 #[.slice Ak K.length ck, .func (.func 100) #[] #[.pointer (some ⟨pt, 0, none⟩), .pointer (some ⟨pw, 0, none⟩)]] w fun e w' => e = .returned (.int .i64 (firstAt (kidIs L s) 0 K)) ∧ Below w.heap.size w w' := by
 have HF := Lib.hid (fun W (hb : Below w.heap.size w W) k (hk : k < L.length) => line1_any A cap L k pt pw s W (hR.below hb) hc hcap hk ((hb.cell (p := ⟨pt, 0, none⟩) (Lib.lt_of_cell ht)).trans ht) ((hb.cell (p := ⟨pw, 0, none⟩) (Lib.lt_of_cell hw)).trans hw))
 have HR := Lib.hid hRk
 have HKL := Lib.hid hK
 have HQ0 : Hid (firstAt (kidIs L s) 0 K = firstAt (kidIs L s) 0 (K.drop 0)) := rfl
 generalize kidIs L s = f at *
 clear hR hK ht hw hRk
 go_enter Tryz.func139, Tryz.ntmps139
 go_wp2
 go_loopw [8] (fun vi wr => ∃ k : Nat, k ≤ K.length ∧ vi = .int .i64 k ∧ Hid (firstAt f 0 K = firstAt f k (K.drop k)) ∧ Hid (Below w.heap.size w wr)) (fun vi _ => K.length - (intOf vi).toNat)
 case atStart => exact ⟨0, Nat.zero_le _, rfl, HQ0, Below.refl _ _⟩
 case round =>
  clear HQ0
  obtain ⟨k, hk, rfl, HQ, HB⟩ := hrel
  by_cases hlt : k < K.length
  · obtain ⟨B, O, rfl, hab, hadd, x0⟩ := (HR.out.below HB.out).intAt hlt
    have HC := Lib.hid (HF.out wr HB.out _ (HKL.out _ (List.getElem_mem hlt)))
    have hst : Hid (firstAt f 0 K = if f K[k] then (k : Int) else firstAt f (k + 1) (K.drop (k + 1))) := HQ.out.trans (firstAt_drop hlt)
    generalize K[k] = r at *
    clear HQ
    cases hf : f r with
    | true =>
      rw [hf] at hst HC
      have HK : Hid (firstAt f 0 K = (k : Int)) := by show _ = _; rw [hst.out]; rfl
      clear hst hf
      go_wp2_with fail
      refine HC.out.mono ?_
      rintro e w2 ⟨rfl, hb2⟩
      have HB2 := Lib.hid (below_step HB.out hb2)
      clear HC HB hb2 x0
      go_wp2
      go_ret
      exact ⟨ret_int HK.out.symm, HB2.out⟩
    | false =>
      rw [hf] at hst HC
      have HK : Hid (firstAt f 0 K = firstAt f (k + 1) (K.drop (k + 1))) := by show _ = _; rw [hst.out]; rfl
      clear hst hf
      go_wp2_with fail
      refine HC.out.mono ?_
      rintro e w2 ⟨rfl, hb2⟩
      have HB2 := Lib.hid (below_step HB.out hb2)
      clear HC HB hb2 x0
      go_wp2_with fail
      go_roundw
      case rel => exact ⟨k + 1, by omega, by go_num, HK, HB2⟩
      case measure => simp [intOf]; omega
  · obtain rfl : k = K.length := by omega
    have HK : Hid (firstAt f 0 K = -1) := by
     show _ = _
     rw [HQ.out, List.drop_length]; rfl
    clear HQ
    go_wp2
    go_ret
    exact ⟨ret_int HK.out.symm, HB.out⟩
set_option maxHeartbeats 1000000 in
theorem hasKid_any (A : Option Addr) (cap : Nat) (L : List Line) (pt pw : Nat) (s : ByteArray) (Ak : Option Addr) (ck : Nat) (K : List Nat) (w : World) (hR : Rd w 3 A L.length (lines L)) (hc : cap ≤ maxLen) (hcap : L.length ≤ cap) (hK : ∀ k ∈ K, k < L.length) (ht : w.cell? ⟨pt, 0, none⟩ = some (.slice A L.length cap)) (hw : w.cell? ⟨pw, 0, none⟩ = some (.string s))
 (hRk : Rd w 1 Ak K.length (iv K)) (hkl : K.length ≤ 100000) :
 Calls Tryz.prog 99 #[.slice Ak K.length ck, .func (.func 100) #[] #[.pointer (some ⟨pt, 0, none⟩), .pointer (some ⟨pw, 0, none⟩)]] w fun e w' => e = .returned (.bool (K.any (kidIs L s))) ∧ Below w.heap.size w w' := by
 have HI := Lib.hid (indexKids_any A cap L pt pw s Ak ck K w hR hc hcap hK ht hw hRk hkl)
 have HA := Lib.hid (firstAt_any (f := kidIs L s) K 0)
 have hlo := firstAt_lo (f := kidIs L s) K 0
 generalize firstAt (kidIs L s) 0 K = z at *
 generalize K.any (kidIs L s) = b at *
 clear hR hK ht hw hRk
 go_enter Tryz.func99, Tryz.ntmps99
 go_wp2_with fail
 refine HI.out.mono ?_
 rintro e w2 ⟨rfl, hb2⟩
 go_wp2
 go_ret
 exact ⟨ret_bool HA.out, hb2⟩
theorem info_fault : (Tryz.prog.info? 99).map (fun i => (i.zero, i.size, i.bytes)) = some (some (.agg #[.slice none 0 0, .int .i64 0]), 2, 32) := by kernel_rfl
theorem fitem_cells (f : Fault) : ∀ c ∈ (fitem f).2, c.oneCell' = true := by
 intro c hc
 simp only [fitem, List.mem_cons, List.not_mem_nil, or_false] at hc
 subst hc; rfl
def LineEnd (F : List Fault) (w : World) (e : Ending) (w' : World) : Prop := (∃ v, e = .returned v ∧ Pl w' w.heap.size 99 2 v (F.map fitem)) ∧ Below w.heap.size w w'
theorem oneF_cases (L : List Line) (i : Nat) (r : Rule) (P : List ByteArray) :
 (r.one = false ∧ oneF L i r P = []) ∨ (r.one = true ∧ (kidsB L i).length = 0 ∧ oneF L i r P = [(P, 1)]) ∨ (r.one = true ∧ (kidsB L i).length = 1 ∧ oneF L i r P = []) ∨ (r.one = true ∧ 1 < (kidsB L i).length ∧ oneF L i r P = [(P, 4)]) := by
 unfold oneF
 cases h : r.one with
 | false => exact .inl ⟨rfl, rfl⟩
 | true =>
   generalize (kidsB L i).length = n
   rcases Nat.lt_trichotomy n 1 with h1 | h1 | h1
   · obtain rfl : n = 0 := by omega
     exact .inr (.inl ⟨rfl, rfl, rfl⟩)
   · subst h1
     exact .inr (.inr (.inl ⟨rfl, rfl, rfl⟩))
   · refine .inr (.inr (.inr ⟨rfl, h1, ?_⟩))
     rw [decide_eq_false (by omega), decide_eq_true h1]; rfl
end Go.Proofs.YtjdknhalcpkeaaaGreatDoor
namespace Sch
open Go Go.Lib Adr Mtr Tre
def known (P : List ByteArray) : Bool := (ruleOf P).isSome
def aliveP (P : List ByteArray) : Bool := (List.range P.length).all fun q => decide (q = 0) || known (P.take q)
def faultAt (L : List Line) (i : Nat) : List Fault :=
 if aliveP (pa L i) then (match ruleOf (pa L i) with | none => [(pa L i, unknownOf (pa L i))] | some r => lineF L i r (pa L i)) else []
def checkB (L : List Line) : List Fault := (List.range L.length).flatMap (faultAt L)
def checkTo (L : List Line) (k : Nat) : List Fault := (List.range k).flatMap (faultAt L)
theorem alive_iff {P : List ByteArray} : aliveP P = true ↔ ∀ q, 1 ≤ q → q < P.length → known (P.take q) = true := by
 unfold aliveP
 rw [List.all_eq_true]
 constructor
 · intro h q h1 h2
   have := h q (List.mem_range.2 h2)
   simpa [show q ≠ 0 by omega] using this
 · intro h q hq
   rcases Nat.eq_zero_or_pos q with h0 | h0
   · simp [h0]
   · simp [h q h0 (List.mem_range.1 hq)]
theorem alive_one (a : ByteArray) : aliveP [a] = true := by
 rw [alive_iff]; intro q h1 h2; simp at h2; omega
section
variable {L : List Line} (hr : rightB L = true)
include hr
theorem alive_zero (h : 0 < L.length) : aliveP (pa L 0) = true := by
 rw [pa_zero (right_parts hr).2.1 h]; exact alive_one _
theorem alive_step {i : Nat} (h : i + 1 < L.length) (ha : aliveP (pa L i) = true) (hk : known (pa L i) = true) : aliveP (pa L (i + 1)) = true := by
 obtain ⟨-, hd, -⟩ := right_parts hr
 have h1 := dep_step hd h
 have h2 := pa_len hd (show i < L.length by omega)
 have h3 := dep_nn hd h
 have h4 := dep_nn hd (show i < L.length by omega)
 rw [alive_iff] at ha ⊢
 rw [pa_succ h]
 intro q hq1 hq2
 rw [List.length_append, List.length_take, List.length_singleton] at hq2
 have hq3 : q ≤ (depthAt L (i + 1)).toNat := by omega
 rw [List.take_append_of_le_length (by rw [List.length_take]; omega), List.take_take, Nat.min_eq_left hq3]
 by_cases hl : q < (pa L i).length
 · exact ha q hq1 hl
 · rw [List.take_of_length_le (by omega)]; exact hk
theorem alive_end {i : Nat} (hi : i < L.length) (h : endB L i < L.length) (ha : aliveP (pa L i) = true) : aliveP (pa L (endB L i)) = true := by
 obtain ⟨-, hd, -⟩ := right_parts hr
 have hb := endB_le L i hi
 have ho := end_out hi h
 obtain ⟨e, he⟩ : ∃ e, endB L i = e + 1 := ⟨endB L i - 1, by omega⟩
 have h2 := pa_len hd hi
 have h4 := dep_nn hd hi
 have h5 := dep_nn hd h
 have hkp := pa_keep hd (D := (depthAt L (endB L i)).toNat) (i := i) (k := e) (by omega) (by omega) (fun m m1 m2 => by
  have := end_in hi m1 (by omega : m < endB L i)
  omega)
 rw [alive_iff] at ha ⊢
 rw [he] at h hkp h5 ho ⊢
 have h6 := pa_len hd (show e < L.length by omega)
 have h7 := dep_step hd h
 rw [pa_succ h]
 intro q hq1 hq2
 rw [List.length_append, List.length_take, List.length_singleton] at hq2
 have hq3 : q ≤ (depthAt L (e + 1)).toNat := by omega
 rw [List.take_append_of_le_length (by rw [List.length_take]; omega), hkp, List.take_take, Nat.min_eq_left hq3]
 exact ha q hq1 (by omega)
theorem dead_in {i m : Nat} (hi : i < L.length) (h1 : i < m) (h2 : m < endB L i) (hk : known (pa L i) = false) : aliveP (pa L m) = false := by
 obtain ⟨-, hd, -⟩ := right_parts hr
 have hb := endB_le L i hi
 have hl := pa_len hd hi
 have hm := pa_len hd (show m < L.length by omega)
 have h4 := dep_nn hd hi
 have h5 := end_in hi h1 h2
 have hkp := pa_keep hd (D := (depthAt L i).toNat + 1) (i := i) (k := m) (by omega) (by omega) (fun x x1 x2 => by
  have := end_in hi x1 (by omega : x < endB L i)
  omega)
 rw [List.take_of_length_le (l := pa L i) (by omega)] at hkp
 cases ha : aliveP (pa L m) with
 | false => rfl
 | true =>
   rw [alive_iff] at ha
   have := ha ((depthAt L i).toNat + 1) (by omega) (by omega)
   rw [hkp, hk] at this
   cases this
omit hr in
theorem check_all : checkTo L L.length = checkB L := rfl
omit hr in
theorem check_zero : checkTo L 0 = [] := rfl
omit hr in
theorem check_known {i : Nat} {r : Rule} (ha : aliveP (pa L i) = true) (h : ruleOf (pa L i) = some r) : checkTo L (i + 1) = checkTo L i ++ lineF L i r (pa L i) := by
 unfold checkTo
 rw [List.range_succ, List.flatMap_append]
 congr 1
 unfold faultAt
 rw [List.flatMap_cons, List.flatMap_nil, List.append_nil, ha, h]; rfl
theorem check_skip {i : Nat} (hi : i < L.length) (ha : aliveP (pa L i) = true) (h : ruleOf (pa L i) = none) : checkTo L (endB L i) = checkTo L i ++ [(pa L i, unknownOf (pa L i))] := by
 have hb := endB_le L i hi
 have hk : known (pa L i) = false := by unfold known; rw [h]; rfl
 have key : ∀ n, i + 1 + n ≤ endB L i → checkTo L (i + 1 + n) = checkTo L i ++ [(pa L i, unknownOf (pa L i))] := by
  intro n
  induction n with
  | zero =>
    intro _
    unfold checkTo
    rw [Nat.add_zero, List.range_succ, List.flatMap_append]
    congr 1
    unfold faultAt
    rw [List.flatMap_cons, List.flatMap_nil, List.append_nil, ha, h]; rfl
  | succ n ih =>
    intro hn
    have e := ih (by omega)
    rw [← e]
    unfold checkTo
    rw [← Nat.add_assoc, List.range_succ, List.flatMap_append]
    have hdead := dead_in hr hi (show i < i + 1 + n by omega) (by omega) hk
    have : faultAt L (i + 1 + n) = [] := by unfold faultAt; rw [hdead]; rfl
    rw [List.flatMap_cons, this, List.flatMap_nil, List.append_nil, List.append_nil]
 have := key (endB L i - (i + 1)) (by omega)
 rwa [show i + 1 + (endB L i - (i + 1)) = endB L i by omega] at this
end
def memB {α : Type} [DecidableEq α] (x : α) (l : List α) : Bool := l.any fun y => decide (y = x)
theorem memB_iff {α : Type} [DecidableEq α] {x : α} {l : List α} : memB x l = true ↔ x ∈ l := by
 unfold memB
 rw [List.any_eq_true]
 simp
theorem memB_not {α : Type} [DecidableEq α] {x : α} {l : List α} : memB x l = false ↔ ¬ x ∈ l := by
 rw [← memB_iff]; simp
theorem flatMap_same {α β : Type} {f g : α → List β} : ∀ {l : List α}, (∀ x ∈ l, f x = g x) → l.flatMap f = l.flatMap g
 | [], _ => rfl
 | x :: l, h => by rw [List.flatMap_cons, List.flatMap_cons, h x (by simp), flatMap_same fun y hy => h y (by simp [hy])]
instance (a b : List ByteArray) : Decidable (pLt a b) := inferInstanceAs (Decidable (List.lt (key a) (key b)))
def thereS (S : List (List ByteArray)) (a b : ByteArray) : Bool := memB [a, b] S
def outS (S : List (List ByteArray)) (s vni : ByteArray) : Bool :=
 memB [wVnis, vni, wSubnet] S && match kw S [wVnis, vni, wSubnet] with
  | [] => false
  | u :: _ => decide (0 ≤ (pre u.data.toList).1) && !(isIn (pre u.data.toList).1 (pre u.data.toList).2 (max (ip s.data.toList) 0))
def twS (S : List (List ByteArray)) (P : List ByteArray) (s : ByteArray) : Bool := S.any fun Q => decide (pLt Q P) && matchB [wHosts, tName, wIp, s] Q
def meantS (S : List (List ByteArray)) (p P : List ByteArray) : Bool :=
 if glueB p = m1 then twS S P (P.getD 3 ⟨#[]⟩)
 else if glueB p = m2 ∨ glueB p = m3 then !(thereS S wHosts (P.getD 3 ⟨#[]⟩))
 else if glueB p = m4 then !(thereS S wVnis (P.getD 3 ⟨#[]⟩))
 else if glueB p = m5 then !(thereS S wVnis (P.getD 3 ⟨#[]⟩)) || outS S (P.getD 1 ⟨#[]⟩) (P.getD 3 ⟨#[]⟩)
 else false
def oneS (K : List ByteArray) (r : Rule) (P : List ByteArray) : List Fault :=
 if r.one && decide (K.length = 0) then [(P, 1)] else if r.one && decide (1 < K.length) then [(P, 4)] else []
def missS (K : List ByteArray) (P : List ByteArray) : List Fault := ((needsOf P).filter fun s => !(memB s K)).map fun s => (P ++ [s], 1)
def lineS (S : List (List ByteArray)) (r : Rule) (P : List ByteArray) : List Fault := oneS (kw S P) r P ++ missS (kw S P) P ++ (if meantS S r.path P then [(P, 7)] else [])
def faultsS (S : List (List ByteArray)) (P : List ByteArray) : List Fault :=
 if aliveP P then (match ruleOf P with | none => [(P, unknownOf P)] | some r => lineS S r P) else []
def checkS (S : List (List ByteArray)) : List Fault := S.flatMap (faultsS S)
section
variable {L : List Line} (hr : rightB L = true)
include hr
theorem there_paths (a b : ByteArray) : isThere L a b = thereS (paths L) a b := by
 unfold isThere thereS
 rw [Bool.eq_iff_iff, find_mem hr, memB_iff]
theorem out_paths (s vni : ByteArray) : outsideB L s vni = outS (paths L) s vni := by
 unfold outsideB outS
 cases hf : findB L [wVnis, vni, wSubnet] with
 | none =>
   have : ¬ [wVnis, vni, wSubnet] ∈ paths L := fun h => by
    have := (find_mem hr).2 h
    rw [hf] at this; cases this
   rw [memB_not.2 this]; rfl
 | some n =>
   have hm : [wVnis, vni, wSubnet] ∈ paths L := (find_mem hr).1 (by rw [hf]; rfl)
   obtain ⟨hn, hp⟩ := findB_some hr hf
   have hk := kids_words hr hn
   rw [hp] at hk
   rw [memB_iff.2 hm, ← hk]
   show (match kidsB L n with | [] => false | k :: _ => _) = _
   cases kidsB L n <;> rfl
omit hr in
theorem tw_from (s : ByteArray) : ∀ n k, twiceFrom L s k n = true ↔ ∃ j, k ≤ j ∧ j < k + n ∧ matchB [wHosts, tName, wIp, s] (pathB L j) = true := by
 intro n
 induction n with
 | zero => intro k; simp [twiceFrom]; intro j h1 h2; omega
 | succ n ih =>
   intro k
   unfold twiceFrom
   rw [Bool.or_eq_true, ih]
   constructor
   · rintro (h | ⟨j, h1, h2, h3⟩)
     · exact ⟨k, by omega, by omega, h⟩
     · exact ⟨j, by omega, by omega, h3⟩
   · rintro ⟨j, h1, h2, h3⟩
     by_cases hj : j = k
     · subst hj; exact .inl h3
     · exact .inr ⟨j, by omega, by omega, h3⟩
theorem up_iff {i k : Nat} (hi : i < L.length) (hk : k < L.length) : pLt (pa L i) (pa L k) ↔ i < k := by
 constructor
 · intro h
   rcases Nat.lt_trichotomy i k with h1 | h1 | h1
   · exact h1
   · subst h1; exact absurd h (pLt_irrefl _)
   · exact absurd (pLt_trans h (pa_up hr h1 hi)) (pLt_irrefl _)
 · intro h; exact pa_up hr h hk
omit hr in
theorem mem_paths {Q : List ByteArray} : Q ∈ paths L ↔ ∃ j, j < L.length ∧ pa L j = Q := by
 rw [paths_range, List.mem_map]
 simp [List.mem_range]
theorem tw_paths {i : Nat} (hi : i < L.length) (s : ByteArray) : twiceB L i s = twS (paths L) (pa L i) s := by
 unfold twiceB twS
 rw [Bool.eq_iff_iff, tw_from, List.any_eq_true]
 constructor
 · rintro ⟨j, -, h2, h3⟩
   have hj : j < L.length := by omega
   rw [path_pa (right_parts hr).2.1 hj] at h3
   refine ⟨pa L j, mem_paths.2 ⟨j, hj, rfl⟩, ?_⟩
   rw [h3, decide_eq_true (pa_up hr (by omega) hi)]; rfl
 · rintro ⟨Q, hQ, h⟩
   obtain ⟨j, hj, rfl⟩ := mem_paths.1 hQ
   rw [Bool.and_eq_true, decide_eq_true_eq] at h
   refine ⟨j, Nat.zero_le _, ?_, by rw [path_pa (right_parts hr).2.1 hj]; exact h.2⟩
   have := (up_iff hr hj hi).1 h.1
   omega
theorem meant_paths {i : Nat} (hi : i < L.length) (p : List ByteArray) : meantB L i p (pa L i) = meantS (paths L) p (pa L i) := by
 unfold meantB meantS
 rw [tw_paths hr hi, there_paths hr, there_paths hr, out_paths hr]
theorem line_paths {i : Nat} (hi : i < L.length) (r : Rule) : lineF L i r (pa L i) = lineS (paths L) r (pa L i) := by
 have hk := kids_words hr hi
 have hlen : (kw (paths L) (pa L i)).length = (kidsB L i).length := by rw [← hk, List.length_map]
 have hhas : ∀ s, kidHas L i s = memB s (kw (paths L) (pa L i)) := fun s => by
  unfold kidHas kidIs
  rw [← hk, Bool.eq_iff_iff, List.any_eq_true, memB_iff, List.mem_map]
  simp
 unfold lineF lineS oneF oneS missF missS meantF
 rw [meant_paths hr hi, hlen, show (fun s => !(kidHas L i s)) = fun s => !(memB s (kw (paths L) (pa L i))) from funext fun s => by rw [hhas]]
theorem check_paths : checkB L = checkS (paths L) := by
 unfold checkB checkS
 conv => rhs; arg 2; rw [paths_range]
 rw [List.flatMap_map]
 refine flatMap_same fun i hi => ?_
 have hi := List.mem_range.1 hi
 unfold faultAt faultsS
 cases ruleOf (pa L i) with
 | none => rfl
 | some r =>
   show (if aliveP (pa L i) = true then lineF L i r (pa L i) else []) = if aliveP (pa L i) = true then lineS (paths L) r (pa L i) else []
   rw [line_paths hr hi]
end
end Sch
namespace Sch
open Go Go.Lib Adr Mtr Tre
def fitsL : List (List ByteArray) → List Line → Prop
 | [], [] => True
 | q :: S, l :: L => (soundB l = true ∧ l.depth = ((q.length - 1 : Nat) : Int) ∧ q.getLastD ⟨#[]⟩ = l.word) ∧ fitsL S L
 | [], _ :: _ => False
 | _ :: _, [] => False
theorem fitsL_app : ∀ {S T : List (List ByteArray)} {L M : List Line}, fitsL S L → fitsL T M → fitsL (S ++ T) (L ++ M)
 | [], _, [], _, _, k => k
 | _ :: _, _, _ :: _, _, h, k => ⟨h.1, fitsL_app h.2 k⟩
 | [], _, _ :: _, _, h, _ => h.elim
 | _ :: _, _, [], _, h, _ => h.elim
theorem fitsL_take : ∀ {S : List (List ByteArray)} {L : List Line} (n : Nat), fitsL S L → fitsL (S.take n) (L.take n)
 | [], [], n, _ => by simp [fitsL]
 | _ :: _, _ :: _, 0, _ => trivial
 | _ :: _, _ :: _, n + 1, h => ⟨h.1, fitsL_take n h.2⟩
 | [], _ :: _, _, h => h.elim
 | _ :: _, [], _, h => h.elim
theorem fitsL_drop : ∀ {S : List (List ByteArray)} {L : List Line} (n : Nat), fitsL S L → fitsL (S.drop n) (L.drop n)
 | [], [], n, _ => by simp [fitsL]
 | _ :: _, _ :: _, 0, h => h
 | _ :: _, _ :: _, n + 1, h => fitsL_drop n h.2
 | [], _ :: _, _, h => h.elim
 | _ :: _, [], _, h => h.elim
theorem drop_last_push (q : List ByteArray) (h : q ≠ []) : q.dropLast ++ [q.getLastD ⟨#[]⟩] = q := by
 rw [List.getLastD_eq_getLast?, List.getLast?_eq_some_getLast h]
 exact List.dropLast_concat_getLast h
theorem of_paths : ∀ {S : List (List ByteArray)} {L : List Line} {p : List ByteArray}, fitsL S L → (∀ q ∈ S, q ≠ [] ∧ pLt p q ∧ (q.dropLast ∈ S ∨ q.dropLast = p ∨ pLt q.dropLast p)) → S.Pairwise pLt →
 depFrom p L = true ∧ srtFrom p L = true ∧ pathsFrom p L = S
 | [], [], _, _, _, _ => ⟨rfl, rfl, rfl⟩
 | [], _ :: _, _, h, _, _ => h.elim
 | _ :: _, [], _, h, _, _ => h.elim
 | q :: S, l :: L, p, h, hq, hs => by
   obtain ⟨⟨h1, h2, h3⟩, hf⟩ := h
   obtain ⟨hs1, hs2⟩ := List.pairwise_cons.1 hs
   obtain ⟨hne, hpq, hpre⟩ := hq q (by simp)
   have hpush := drop_last_push q hne
   have hlt : pLt q.dropLast q := by
    have := pLt_push q.dropLast (q.getLastD ⟨#[]⟩) []
    rwa [hpush] at this
   have hpre2 : q.dropLast = p ∨ pLt q.dropLast p := by
    rcases hpre with h | h
    · rcases List.mem_cons.1 h with e | e
      · rw [e] at hlt; exact absurd hlt (pLt_irrefl _)
      · exact absurd (pLt_trans hlt (hs1 _ e)) (pLt_irrefl _)
    · exact h
   obtain ⟨s, hps⟩ : ∃ s, p = q.dropLast ++ s := by
    rcases hpre2 with e | e
    · exact ⟨[], by rw [e]; simp⟩
    · exact between e (.inl (by rw [hpush]; exact hpq))
   have hdl : q.dropLast.length = q.length - 1 := by simp
   have hdn : l.depth.toNat = q.dropLast.length := by rw [h2, hdl]; simp
   have hnxt : nxt p l = q := by
    unfold nxt
    rw [hdn, hps, List.take_left', ← h3, hpush]
    rfl
   have hle : l.depth ≤ (p.length : Int) := by
    rw [h2, ← hdl, hps, List.length_append]; omega
   have hsrt : srtOk p l = true := by
    unfold srtOk
    cases s with
    | nil =>
      rw [List.append_nil] at hps
      rw [decide_eq_true (p := l.depth = (p.length : Int)) (by rw [h2, ← hdl, hps])]; rfl
    | cons x s =>
      have hx : pLt (x :: s) [q.getLastD ⟨#[]⟩] := by
       rw [hps] at hpq
       conv at hpq => rhs; rw [← hpush]
       exact pLt_front.1 hpq
      have hxl : x.toList < l.word.toList := by
       rcases pLt_cons_iff.1 hx with h | ⟨-, h⟩
       · rw [h3] at h; exact h
       · exact absurd h (pLt_nil_not _)
      have hg : p.getD l.depth.toNat ⟨#[]⟩ = x := by
       rw [hdn, hps, List.getD_eq_getElem?_getD, List.getElem?_append_right (Nat.le_refl _)]; simp
      rw [hg, Proofs.bytesLess_eq, decide_eq_true hxl, Bool.or_true]
   have ih := of_paths (S := S) (L := L) (p := q) hf (fun x hx => by
    obtain ⟨a, b, c⟩ := hq x (List.mem_cons_of_mem _ hx)
    refine ⟨a, hs1 x hx, ?_⟩
    rcases c with c | c | c
    · rcases List.mem_cons.1 c with e | e
      · exact .inr (.inl e)
      · exact .inl e
    · exact .inr (.inr (by rw [c]; exact hpq))
    · exact .inr (.inr (pLt_trans c hpq))) hs2
   obtain ⟨i1, i2, i3⟩ := ih
   refine ⟨?_, ?_, ?_⟩
   · show (soundB l && decide (l.depth ≤ (p.length : Int)) && depFrom (nxt p l) L) = true
     rw [h1, decide_eq_true hle, hnxt, i1]; rfl
   · show (srtOk p l && srtFrom (nxt p l) L) = true
     rw [hsrt, hnxt, i2]; rfl
   · show nxt p l :: pathsFrom (nxt p l) L = q :: S
     rw [hnxt, i3]
def treeS (S : List (List ByteArray)) : Prop := S.Pairwise pLt ∧ ∀ q ∈ S, q ≠ [] ∧ (q.dropLast ∈ S ∨ q.dropLast = [])
theorem nil_or (q : List ByteArray) : q = [] ∨ pLt [] q := by
 cases q with
 | nil => exact .inl rfl
 | cons a l => exact .inr (pLt_nil a l)
theorem of_tree {S : List (List ByteArray)} {L : List Line} (hf : fitsL S L) (hs : treeS S) (hl : L.length ≤ 200) : rightB L = true ∧ paths L = S := by
 obtain ⟨h1, h2, h3⟩ := of_paths (p := []) hf (fun q hq => by
  obtain ⟨a, b⟩ := hs.2 q hq
  refine ⟨a, ?_, ?_⟩
  · rcases nil_or q with e | e
    · exact absurd e a
    · exact e
  · rcases b with b | b
    · exact .inl b
    · exact .inr (.inl b)) hs.1
 exact ⟨by rw [right_steps, decide_eq_true hl, h1, h2]; rfl, h3⟩
theorem fits_from : ∀ {L : List Line} {p : List ByteArray}, depFrom p L = true → fitsL (pathsFrom p L) L
 | [], _, _ => trivial
 | l :: r, p, h => by
   have h : (soundB l && decide (l.depth ≤ (p.length : Int)) && depFrom (nxt p l) r) = true := h
   rw [Bool.and_eq_true, Bool.and_eq_true, decide_eq_true_eq] at h
   obtain ⟨⟨h1, h2⟩, h3⟩ := h
   have d := sound_depth h1
   have hn := nxt_len d.1 h2
   refine ⟨⟨h1, by omega, ?_⟩, fits_from h3⟩
   unfold nxt
   rw [List.getLastD_eq_getLast?, List.getLast?_append]; rfl
theorem tree_of {L : List Line} (hr : rightB L = true) : treeS (paths L) ∧ fitsL (paths L) L := by
 obtain ⟨-, hd, hs⟩ := right_parts hr
 refine ⟨⟨(pathsFrom_up hd hs).2, fun q hq => ?_⟩, fits_from hd⟩
 obtain ⟨i, hi, rfl⟩ := mem_paths.1 hq
 have hl := pa_len hd hi
 refine ⟨fun e => by rw [e] at hl; simp at hl, ?_⟩
 rcases Nat.lt_or_ge 1 (pa L i).length with h | h
 · left
   obtain ⟨m, hm, e⟩ := head_at hd hi (q := (pa L i).length - 1) (by omega) (by omega)
   rw [← List.dropLast_eq_take] at e
   exact mem_paths.2 ⟨m, by omega, e⟩
 · right
   have : (pa L i).length = 1 := by omega
   obtain ⟨a, e⟩ := List.length_eq_one_iff.1 this
   rw [e]; rfl
end Sch
