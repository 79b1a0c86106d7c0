/- Plain: the tables of a tree less one route, or one policy. A walk: the reference's Put of one word at the top. The law HostLess. Plain: a tree that is made anew of its paths, in another order, has the same paths. A parameter that is a slice of entries: what lies in its cells, as a list. Parameters: an entry by value; a slice that may be nil. -/
import Derived.Deep.Slices
import Derived.Deep.Fields
import Derived.ChangeSame
import Derived.Lib.SmallJoins
import Derived.Test.YtjdknhalcpkeaaaGreatDoorJ44
import Derived.Test.YtjdknhalcpkeaaaGreatDoorJ24
import Derived.Test.YtjdknhalcpkeaaaGreatDoorJ42
import Derived.Test.YtjdknhalcpkeaaaGreatDoorJ45
import Derived.Test.YtjdknhalcpkeaaaGreatDoorJ05
import Derived.Test.YtjdknhalcpkeaaaGreatDoorJ01
namespace Hst
open Go Go.Lib Rte Sch Tre
def outP (a w : ByteArray) (P : List ByteArray) : Bool := !(decide (P.take 2 = [a, w]))
theorem out_iff {a w : ByteArray} {P : List ByteArray} : outP a w P = true ↔ P.take 2 ≠ [a, w] := by unfold outP; simp
theorem out_head {a w x : ByteArray} (h : x ≠ a) (l : List ByteArray) : outP a w (x :: l) = true := by
 rw [out_iff]
 intro e
 rw [List.take_succ_cons, List.cons.injEq] at e
 exact h e.1
section
variable (S : List (List ByteArray))
theorem kw_out {a w : ByteArray} {P : List ByteArray} (h : P.take 2 ≠ [a, w]) (h1 : P ≠ [a]) : kw (S.filter (outP a w)) P = kw S P := by
 unfold kw
 rw [List.filter_filter]
 congr 1
 refine List.filter_congr fun q _ => ?_
 cases hq : isKid P q with
 | false => rfl
 | true =>
   obtain ⟨x, rfl⟩ := isKid_iff.1 hq
   rw [Bool.true_and, out_iff]
   match P, h, h1 with
   | [], _, _ => simp
   | [b], _, h1 =>
     intro e
     have e : [b, x] = [a, w] := e
     rw [List.cons.injEq] at e
     exact h1 (by rw [e.1])
   | b :: c :: l, h, _ => exact h
theorem kw_head {a w x : ByteArray} (h : x ≠ a) (l : List ByteArray) : kw (S.filter (outP a w)) (x :: l) = kw S (x :: l) :=
 kw_out S (out_iff.1 (out_head h l)) fun e => h (List.cons.inj e).1
theorem kw_second {a w x : ByteArray} (h : x ≠ w) (l : List ByteArray) : kw (S.filter (outP a w)) (a :: x :: l) = kw S (a :: x :: l) :=
 kw_out S (fun e => h (by
  have e : [a, x] = [a, w] := e
  simpa using e)) (by simp)
theorem kw_self (a w : ByteArray) : kw (S.filter (outP a w)) [a] = (kw S [a]).filter fun x => !(decide (x = w)) := by
 unfold kw
 rw [List.filter_filter, List.filter_map, List.filter_filter]
 congr 1
 refine List.filter_congr fun q _ => ?_
 cases hq : isKid [a] q with
 | false => simp
 | true =>
   obtain ⟨x, rfl⟩ := isKid_iff.1 hq
   have e : outP a w ([a] ++ [x]) = !(decide (x = w)) := by
    unfold outP
    show (!(decide ([a, x] = [a, w]))) = _
    simp
   rw [Bool.true_and, Bool.and_true, e]
   rfl
theorem mem_out {q : List ByteArray} {a w : ByteArray} (hk : outP a w q = true) : memB q (S.filter (outP a w)) = memB q S := by
 rw [Bool.eq_iff_iff, memB_iff, memB_iff, List.mem_filter]
 exact ⟨fun h => h.1, fun h => ⟨h, hk⟩⟩
theorem tw_out {a w : ByteArray} (ha : wHosts ≠ a) (P : List ByteArray) (s : ByteArray) : twS (S.filter (outP a w)) P s = twS S P s := by
 unfold twS
 rw [List.any_filter]
 refine List.any_congr rfl fun Q => ?_
 cases hm : matchB [wHosts, tName, wIp, s] Q with
 | false => simp
 | true =>
   obtain ⟨l, rfl⟩ := match_hosts hm
   rw [out_head ha]; simp
end
def partW (a : ByteArray) : Prop := a = wRoutes ∨ a = wPolicy
theorem part_hosts {a : ByteArray} (h : partW a) : wHosts ≠ a := by rcases h with rfl | rfl <;> decide +kernel
theorem part_vnis {a : ByteArray} (h : partW a) : wVnis ≠ a := by rcases h with rfl | rfl <;> decide +kernel
theorem part_bind {a : ByteArray} (h : partW a) : wBind ≠ a := by rcases h with rfl | rfl <;> decide +kernel
theorem glue_r : ¬ glueB [wRoutes] = m1 ∧ ¬ (glueB [wRoutes] = m2 ∨ glueB [wRoutes] = m3) ∧ ¬ glueB [wRoutes] = m4 ∧ ¬ glueB [wRoutes] = m5 := by decide +kernel
theorem glue_p : ¬ glueB [wPolicy] = m1 ∧ ¬ (glueB [wPolicy] = m2 ∨ glueB [wPolicy] = m3) ∧ ¬ glueB [wPolicy] = m4 ∧ ¬ glueB [wPolicy] = m5 := by decide +kernel
theorem faults_part (S : List (List ByteArray)) {a : ByteArray} (h : partW a) : faultsS S [a] = [] := by
 unfold faultsS
 rw [if_pos (alive_one a), rule_1]
 have h2 : ¬ secondB a = ⟨#[]⟩ := by rcases h with rfl | rfl <;> decide +kernel
 rw [if_neg h2]
 show lineS S ⟨[a], false, false⟩ [a] = []
 unfold lineS
 have e1 : oneS (kw S [a]) ⟨[a], false, false⟩ [a] = [] := by unfold oneS; simp
 have e2 : missS (kw S [a]) [a] = [] := by unfold missS; rw [needs_other (by simp)]; rfl
 have e3 : meantS S [a] [a] = false := by
  unfold meantS
  rcases h with rfl | rfl
  · obtain ⟨g1, g2, g3, g4⟩ := glue_r
    simp only [g1, g2, g3, g4, if_false]
  · obtain ⟨g1, g2, g3, g4⟩ := glue_p
    simp only [g1, g2, g3, g4, if_false]
 rw [e1, e2]
 simp [e3]
section
variable {S : List (List ByteArray)}
theorem out_fine (hF : Fine S) {a : ByteArray} (ha : partW a) (w : ByteArray) : Fine (S.filter (outP a w)) where
 trs := ⟨fun P hP => hF.trs.ne P (List.mem_filter.1 hP).1, fun P hP q h1 h2 => by
  obtain ⟨h3, h4⟩ := List.mem_filter.1 hP
  refine List.mem_filter.2 ⟨hF.trs.pre P h3 q h1 h2, ?_⟩
  rw [out_iff] at h4 ⊢
  by_cases hq : 2 ≤ q
  · rw [List.take_take, Nat.min_eq_left hq]; exact h4
  · obtain rfl : q = 1 := by omega
    intro e
    have := congrArg List.length e
    simp only [List.length_take, List.length_cons, List.length_nil] at this
    omega⟩
 no := by
  have hno := hF.no
  unfold checkS at hno ⊢
  rw [List.flatMap_eq_nil_iff] at hno ⊢
  intro P hP
  obtain ⟨hm, hk⟩ := List.mem_filter.1 hP
  by_cases h1 : P = [a]
  · rw [h1]; exact faults_part _ ha
  · rw [faults_same (S := S) (kw_out S (out_iff.1 hk) h1) (fun d => mem_out S (out_head (part_hosts ha) _)) (fun d => mem_out S (out_head (part_vnis ha) _)) (fun v => mem_out S (out_head (part_vnis ha) _))
     (fun v => kw_head S (part_vnis ha) _) (fun s => tw_out S (part_hosts ha) P s)]
    exact hno P hm
theorem flat_keep {α β : Type} (f : α → List β) (p : β → Bool) (l : List α) : (l.flatMap f).filter p = l.flatMap fun x => (f x).filter p := by
 induction l with
 | nil => rfl
 | cons a l ih => rw [List.flatMap_cons, List.filter_append, ih, List.flatMap_cons]
def keepE (k : Int) (w : ByteArray) (x : Ent) : Bool := !(decide (x.kind = k)) || !(decide (x.key = w))
theorem keep_all {l : List Ent} {k : Int} {w : ByteArray} (h : ∀ e ∈ l, e.kind ≠ k) : l.filter (keepE k w) = l := by
 rw [List.filter_eq_self]
 intro e he
 unfold keepE
 simp [h e he]
theorem floods_out {a : ByteArray} (ha : partW a) (w h : ByteArray) : floodsU (S.filter (outP a w)) h = floodsU S h := by
 have K := fun l => kw_head S (w := w) (part_hosts ha) l
 unfold floodsU addrU inU oneU
 simp only [K]
theorem bindings_out {a : ByteArray} (ha : partW a) (w h : ByteArray) : bindingsU (S.filter (outP a w)) h = bindingsU S h := by
 have K := fun l => kw_head S (w := w) (part_hosts ha) l
 have K2 := fun l => kw_head S (w := w) (part_bind ha) l
 unfold bindingsU bindU vniU macU ownU addrU inU oneU
 simp only [K, K2]
theorem host_out {a w : ByteArray} {k : Int} (hr : ∀ h, routesU (S.filter (outP a w)) h = (routesU S h).filter (keepE k w)) (hp : ∀ h, polsU (S.filter (outP a w)) h = (polsU S h).filter (keepE k w)) (ha : partW a) (hk : 4 ≤ k) (h : ByteArray) :
 hostU (S.filter (outP a w)) h = (hostU S h).filter (keepE k w) := by
 unfold hostU
 rw [List.filter_append, List.filter_append, List.filter_append, ← hr, ← hp, floods_out ha, bindings_out ha, keep_all (l := floodsU S h) (fun e he => by have := (kind_floods he).2; omega),
  keep_all (l := bindingsU S h) (fun e he => by have := (kind_bind he).2; omega)]
theorem all_out {a : ByteArray} {k : Int} {w : ByteArray} (hh : ∀ h, hostU (S.filter (outP a w)) h = (hostU S h).filter (keepE k w)) (ha : partW a) : allU (S.filter (outP a w)) = (allU S).filter (keepE k w) := by
 unfold allU
 rw [flat_keep, kw_head S (part_hosts ha)]
 exact flatMap_same fun h _ => hh h
theorem all_routes (w : ByteArray) : allU (S.filter (outP wRoutes w)) = (allU S).filter (keepE 4 w) := by
 have ha : partW wRoutes := .inl rfl
 refine all_out (fun h => host_out (fun h => ?_) (fun h => ?_) ha (by omega) h) ha
 · unfold routesU
   rw [kw_self, List.filter_map]
   have e : (keepE 4 w ∘ routeU S h) = fun p => !(decide (p = w)) := by
    funext p
    show (!(decide ((4 : Int) = 4)) || !(decide (p = w))) = _
    simp
   rw [e]
   refine List.map_congr_left fun p hp => ?_
   have hne : p ≠ w := by simpa using (List.mem_filter.1 hp).2
   have K := fun l => kw_second S (a := wRoutes) hne l
   have K2 := fun l => kw_head S (w := w) (part_hosts ha) l
   unfold routeU viaU addrU oneU
   simp only [K, K2]
 · have hne : wPolicy ≠ wRoutes := by decide +kernel
   have K := fun l => kw_head S (w := w) hne l
   rw [keep_all (l := polsU S h) (fun e he => by have := (kind_pols he).2; omega)]
   unfold polsU polU oneU
   simp only [K]
theorem all_pols (w : ByteArray) : allU (S.filter (outP wPolicy w)) = (allU S).filter (keepE 5 w) := by
 have ha : partW wPolicy := .inr rfl
 refine all_out (fun h => host_out (fun h => ?_) (fun h => ?_) ha (by omega) h) ha
 · have hne : wRoutes ≠ wPolicy := by decide +kernel
   have K := fun l => kw_head S (w := w) hne l
   have K2 := fun l => kw_head S (w := w) (part_hosts ha) l
   rw [keep_all (l := routesU S h) (fun e he => by have := (kind_routes he).2; omega)]
   unfold routesU routeU viaU addrU oneU
   simp only [K, K2]
 · unfold polsU
   rw [kw_self, List.filter_map]
   have e : (keepE 5 w ∘ polU S h) = fun p => !(decide (p = w)) := by
    funext p
    show (!(decide ((5 : Int) = 5)) || !(decide (p = w))) = _
    simp
   rw [e]
   refine List.map_congr_left fun p hp => ?_
   have hne : p ≠ w := by simpa using (List.mem_filter.1 hp).2
   have K := fun l => kw_second S (a := wPolicy) hne l
   unfold polU oneU
   simp only [K]
end
def cutL (L : List Line) (i : Nat) : List Line := L.take i ++ L.drop (endB L i)
theorem cut_right {L : List Line} (hr : rightB L = true) {i : Nat} (hi : i < L.length) {a w : ByteArray} (hp : pa L i = [a, w]) : rightB (cutL L i) = true ∧ paths (cutL L i) = (paths L).filter (outP a w) := by
 obtain ⟨ht, hf⟩ := tree_of hr
 have hd := (right_parts hr).2.1
 have he := endB_le L i hi
 have hin : ∀ k, k < L.length → (outP a w (pa L k) = false ↔ i ≤ k ∧ k < endB L i) := fun k hk => by
  rw [← pre_iff hr hi hk, hp]
  unfold outP
  rw [Bool.not_eq_false', decide_eq_true_eq]
  constructor
  · intro h; exact ⟨(pa L k).drop 2, by rw [← h, List.take_append_drop]⟩
  · rintro ⟨s, h⟩; rw [h]; rfl
 have hA : ((paths L).take i).filter (outP a w) = (paths L).take i := by
  rw [List.filter_eq_self]
  intro q hq
  obtain ⟨k, hk, e⟩ := List.getElem_of_mem hq
  rw [List.length_take, paths_length] at hk
  rw [List.getElem_take, ← pa_lt (by omega)] at e
  rw [← e]
  cases ho : outP a w (pa L k) with
  | true => rfl
  | false => have := (hin k (by omega)).1 ho; omega
 have hC : ((paths L).drop (endB L i)).filter (outP a w) = (paths L).drop (endB L i) := by
  rw [List.filter_eq_self]
  intro q hq
  obtain ⟨k, hk, e⟩ := List.getElem_of_mem hq
  rw [List.length_drop, paths_length] at hk
  rw [List.getElem_drop, ← pa_lt (by omega)] at e
  rw [← e]
  cases ho : outP a w (pa L (endB L i + k)) with
  | true => rfl
  | false => have := (hin (endB L i + k) (by omega)).1 ho; omega
 have hB : (((paths L).drop i).take (endB L i - i)).filter (outP a w) = [] := by
  rw [List.filter_eq_nil_iff]
  intro q hq
  obtain ⟨k, hk, e⟩ := List.getElem_of_mem hq
  rw [List.length_take, List.length_drop, paths_length] at hk
  rw [List.getElem_take, List.getElem_drop, ← pa_lt (by omega)] at e
  rw [← e, (hin (i + k) (by omega)).2 ⟨by omega, by omega⟩]
  simp
 have hsplit : (paths L).filter (outP a w) = (paths L).take i ++ (paths L).drop (endB L i) := by
  have e : paths L = (paths L).take i ++ (((paths L).drop i).take (endB L i - i) ++ (paths L).drop (endB L i)) := by
   have e2 : (paths L).drop (endB L i) = ((paths L).drop i).drop (endB L i - i) := by rw [List.drop_drop]; congr 1; omega
   rw [e2, List.take_append_drop, List.take_append_drop]
  conv => lhs; rw [e]
  rw [List.filter_append, List.filter_append, hA, hB, hC, List.nil_append]
 have hres : rightB (cutL L i) = true ∧ paths (cutL L i) = (paths L).take i ++ (paths L).drop (endB L i) := by
  refine of_tree (fitsL_app (fitsL_take _ hf) (fitsL_drop _ hf)) ⟨by rw [← hsplit]; exact List.Pairwise.filter _ ht.1, fun q hq => ?_⟩ ?_
  · rw [← hsplit] at hq ⊢
    obtain ⟨h1, h2⟩ := List.mem_filter.1 hq
    obtain ⟨h3, h4⟩ := ht.2 q h1
    refine ⟨h3, ?_⟩
    rcases h4 with h4 | h4
    · refine .inl (List.mem_filter.2 ⟨h4, ?_⟩)
      rw [out_iff] at h2 ⊢
      intro e
      refine h2 ?_
      have hl := congrArg List.length e
      simp only [List.length_take, List.length_cons, List.length_nil] at hl
      rw [← drop_last_push q h3, List.take_append_of_le_length (by omega)]
      exact e
    · exact .inr h4
  · unfold cutL
    have := (right_parts hr).1
    rw [List.length_append, List.length_take, List.length_drop]; omega
 exact ⟨hres.1, by rw [hres.2, hsplit]⟩
end Hst
namespace Go.Proofs.YtjdknhalcpkeaaaGreatDoor
open Go Go.RowKit Go.Sort Sch Adr Mtr Tre
theorem info_pline : (Tryz.prog.info? 52).map (fun i => (i.zero, i.size, i.bytes)) = some (some (.agg #[.int .i64 0, .string ⟨#[]⟩, .int .i64 0]), 3, 32) := by kernel_rfl
theorem rd_take {w : World} {A : Option Addr} {L : List Line} (h : Rd w 3 A L.length (lines L)) {n : Nat} (hn : n ≤ L.length) : Rd w 3 A n (lines (L.take n)) := by
 refine ⟨by rw [lines_length, List.length_take, Nat.min_eq_left hn], fun h0 => ?_⟩
 obtain ⟨ad, e, hb, hx⟩ := h.2 (by omega)
 refine ⟨ad, e, hb, fun j u hu => hx j u ?_⟩
 conv => lhs; rw [← List.take_append_drop n L, lines_append]
 rw [List.getElem?_append_left (List.getElem?_eq_some_iff.1 hu).1]; exact hu
theorem rd_drop {w : World} {b o : Nat} {L : List Line} (h : Rd w 3 (some ⟨b, o, none⟩) L.length (lines L)) {n : Nat} (hn : n ≤ L.length) : Rd w 3 (some ⟨b, o + n * 3, none⟩) (L.length - n) (lines (L.drop n)) := by
 refine ⟨by rw [lines_length, List.length_drop], fun h0 => ?_⟩
 obtain ⟨ad, e, hb, hx⟩ := h.2 (by omega)
 injection e with e
 subst e
 refine ⟨_, rfl, hb, fun j u hu => ?_⟩
 have := hx (n * 3 + j) u (by
  conv => lhs; rw [← List.take_append_drop n L, lines_append]
  rw [List.getElem?_append_right (by rw [lines_length, List.length_take, Nat.min_eq_left hn]; omega), lines_length, List.length_take, Nat.min_eq_left hn, Nat.add_sub_cancel_left]; exact hu)
 rw [add_plain] at this ⊢
 rw [← this, Nat.add_assoc]
end Go.Proofs.YtjdknhalcpkeaaaGreatDoor
namespace Hst
open Go Go.Lib Rte Sch Tre
theorem less_facts {L : List Line} (hr : rightB L = true) (hf : checkB L = []) {a : ByteArray} (ha : partW a) (k : Int) (hk : ∀ S w, allU (S.filter (outP a w)) = (allU S).filter (keepE k w)) (w : ByteArray) (hw : w ∈ kw (paths L) [a]) :
 ∃ z, z < L.length ∧ findB L [a, w] = some z ∧ rightB (cutL L z) = true ∧ checkB (cutL L z) = [] ∧ setE (allU (paths (cutL L z))) = (setE (allU (paths L))).filter (keepE k w) := by
 have hm : [a, w] ∈ paths L := by simpa using mem_kw.1 hw
 have h1 := (find_mem hr).2 hm
 cases hz : findB L [a, w] with
 | none => rw [hz] at h1; cases h1
 | some z =>
   obtain ⟨h2, h3⟩ := findB_some hr hz
   obtain ⟨h4, h5⟩ := cut_right hr h2 h3
   refine ⟨z, h2, rfl, h4, ?_, ?_⟩
   · rw [check_paths h4, h5]
     exact (out_fine (fine_of hr hf) ha w).no
   · rw [h5, hk, set_filter]
theorem keep_no {k : Int} {w : ByteArray} {e : Ent} (h1 : e.kind = k) (h2 : e.key = w) : keepE k w e = false := by unfold keepE; simp [h1, h2]
theorem keep_k {k : Int} {w : ByteArray} {e : Ent} (h1 : e.kind ≠ k) : keepE k w e = true := by unfold keepE; simp [h1]
theorem keep_w {k : Int} {w : ByteArray} {e : Ent} (h2 : e.key ≠ w) : keepE k w e = true := by unfold keepE; simp [h2]
theorem filter_yes {α : Type} (p : α → Bool) (l : List α) {k : Nat} (hk : k < l.length) (h : p l[k] = true) : (l.take (k + 1)).filter p = (l.take k).filter p ++ [l[k]] := by
 rw [List.take_succ_eq_append_getElem hk, List.filter_append, List.filter_cons_of_pos h]; rfl
theorem filter_no {α : Type} (p : α → Bool) (l : List α) {k : Nat} (hk : k < l.length) (h : p l[k] = false) : (l.take (k + 1)).filter p = (l.take k).filter p := by
 rw [List.take_succ_eq_append_getElem hk, List.filter_append, List.filter_cons_of_neg (by simp [h])]; simp
end Hst
namespace Go.Proofs.YtjdknhalcpkeaaaGreatDoor
open Go Go.RowKit Go.Sort Rte Sch Tre Hst
theorem lines_cells2 (L : List Line) : ∀ u ∈ lines L, u.oneCell' = true := by
 intro u hu
 unfold lines at hu
 obtain ⟨l, -, h⟩ := List.mem_flatMap.1 hu
 exact Tre.cells_one l u h
theorem refend_any (A : Option Addr) (cap : Nat) (L : List Line) (w : World) (hR : Rd w 3 A L.length (lines L)) (hcap : L.length ≤ cap) (hc : cap ≤ maxLen) (n : Nat) (hn : n < L.length) (W : World) (hb : Below w.heap.size w W) :
 Calls Tryz.prog 24 #[.slice A L.length cap, .int .i64 n] W fun e w' => e = .returned (.int .i64 (endB L n : Nat)) ∧ Below W.heap.size W w' :=
 refEnd_lines A cap L n W (hR.below hb) hcap hc hn
end Go.Proofs.YtjdknhalcpkeaaaGreatDoor
namespace Lns
open Go Go.Lib Adr Mtr Tre Sch
theorem sub_len {α : Type} : ∀ {A B : List α}, A.Nodup → (∀ q ∈ A, q ∈ B) → A.length ≤ B.length
 | [], _, _, _ => Nat.zero_le _
 | a :: A, B, hn, h => by
   obtain ⟨B1, B2, rfl⟩ := List.append_of_mem (h a (by simp))
   obtain ⟨h1, h2⟩ := List.nodup_cons.1 hn
   have := sub_len (A := A) (B := B1 ++ B2) h2 fun q hq => by
    have hne : q ≠ a := fun e => h1 (e ▸ hq)
    have := h q (by simp [hq])
    simp only [List.mem_append, List.mem_cons] at this ⊢
    rcases this with g | g | g
    · exact .inl g
    · exact absurd g hne
    · exact .inr g
   simp only [List.length_append, List.length_cons] at this ⊢
   omega
theorem sorted_same : ∀ {A B : List (List ByteArray)}, A.Pairwise pLt → B.Pairwise pLt → (∀ q, q ∈ A ↔ q ∈ B) → A = B
 | [], [], _, _, _ => rfl
 | [], b :: B, _, _, h => absurd ((h b).2 (by simp)) (by simp)
 | a :: A, [], _, _, h => absurd ((h a).1 (by simp)) (by simp)
 | a :: A, b :: B, hA, hB, h => by
   obtain ⟨a1, a2⟩ := List.pairwise_cons.1 hA
   obtain ⟨b1, b2⟩ := List.pairwise_cons.1 hB
   have hab : a = b := by
    rcases List.mem_cons.1 ((h a).1 (by simp)) with e | h1
    · exact e
    · rcases List.mem_cons.1 ((h b).2 (by simp)) with e | h2
      · exact e.symm
      · exact absurd (pLt_trans (b1 a h1) (a1 b h2)) (pLt_irrefl _)
   subst hab
   rw [sorted_same a2 b2 fun q => ?_]
   constructor
   · intro hq
     rcases List.mem_cons.1 ((h q).1 (by simp [hq])) with e | e
     · rw [e] at hq; exact absurd (a1 _ hq) (pLt_irrefl _)
     · exact e
   · intro hq
     rcases List.mem_cons.1 ((h q).2 (by simp [hq])) with e | e
     · rw [e] at hq; exact absurd (b1 _ hq) (pLt_irrefl _)
     · exact e
theorem sorted_nodup {A : List (List ByteArray)} (h : A.Pairwise pLt) : A.Nodup := h.imp fun {a b} hlt e => by rw [e] at hlt; exact pLt_irrefl _ hlt
theorem addGo_some {P : List ByteArray} (hP : soundP P = true) (h16 : P.length ≤ 16) {S : List (List ByteArray)} (hS : S.length < 200) (hin : ∀ j, 1 ≤ j → j ≤ P.length → P.take j ∈ S) : ∀ (f d : Nat) (out : List Line), d + f = P.length → rightB out = true → (d = 0 ∨ P.take d ∈ paths out) → (∀ q ∈ paths out, q ∈ S) →
 ∃ M, addGo P f d out = some M
 | 0, d, out, _, _, _, _ => ⟨out, rfl⟩
 | f + 1, d, out, hd, hr, hU, hsub => by
   unfold addGo
   cases hf : findB out (P.take (d + 1)) with
   | some k =>
     rw [if_pos (show (some k).isSome = true from rfl)]
     have hmem : P.take (d + 1) ∈ paths out := (find_mem hr).1 (by rw [hf]; rfl)
     exact addGo_some hP h16 hS hin f (d + 1) out (by omega) hr (.inr hmem) hsub
   | none =>
     rw [if_neg (show ¬ (none : Option Nat).isSome = true by simp)]
     have hl : out.length < 200 := by
      rw [← paths_length]
      exact Nat.lt_of_le_of_lt (sub_len (sorted_nodup (tree_of hr).1.1) hsub) hS
     rw [if_neg (by omega)]
     obtain ⟨g1, -, g2⟩ := add_step hP h16 hr (by omega) hU hf hl
     exact addGo_some hP h16 hS hin f (d + 1) _ (by omega) g1 (.inr ((g2 _).2 (.inl rfl))) fun q hq => by
      rcases (g2 q).1 hq with e | e
      · rw [e]; exact hin _ (by omega) (by omega)
      · exact hsub q e
theorem pa_sound {L : List Line} (hr : rightB L = true) {i : Nat} (hi : i < L.length) : soundP (pa L i) = true ∧ (pa L i).length ≤ 16 := by
 have hd := (right_parts hr).2.1
 have hl := pa_len hd hi
 have hn := dep_nn hd hi
 refine ⟨?_, by omega⟩
 unfold soundP
 rw [Bool.and_eq_true, decide_eq_true_eq, List.all_eq_true]
 refine ⟨by omega, fun s hs => ?_⟩
 obtain ⟨j, hj, rfl⟩ := List.getElem_of_mem hs
 obtain ⟨m, hm, e⟩ := head_at hd hi (q := j + 1) (by omega) (by omega)
 have hml : m < L.length := by omega
 have hw := pa_last hr hml
 rw [e, List.take_succ_eq_append_getElem hj, List.getLastD_eq_getLast?, List.getLast?_append] at hw
 have hw : (pa L i)[j] = wordAt L m := hw
 rw [hw, wordAt_lt hml, decide_eq_true_eq]
 have := Go.Proofs.YtjdknhalcpkeaaaGreatDoor.right_sound hr L[m] (List.getElem_mem hml)
 unfold soundB at this
 simp only [Bool.and_eq_true, decide_eq_true_eq] at this
 exact this.1.1.2
theorem addB_ok {L M : List Line} {P : List ByteArray} (hr : rightB L = true) (hP : soundP P = true) (h16 : P.length ≤ 16) (h : addGo P P.length 0 L = some M) : addB L P = (M, 0) := by
 unfold addB
 rw [if_neg (by rw [hr, hP]; simp), if_neg (by omega), h]
def madeB (L : List Line) : Nat → List Line
 | 0 => []
 | k + 1 => (addB (madeB L k) (pa L (L.length - 1 - k))).1
theorem made_spec {L : List Line} (hr : rightB L = true) (h60 : L.length ≤ 60) : ∀ k, k ≤ L.length → rightB (madeB L k) = true ∧
 (∀ q, q ∈ paths (madeB L k) ↔ ∃ m j, L.length - k ≤ m ∧ m < L.length ∧ 1 ≤ j ∧ j ≤ (pa L m).length ∧ q = (pa L m).take j) ∧ (k < L.length → addB (madeB L k) (pa L (L.length - 1 - k)) = (madeB L (k + 1), 0))
 | 0, _ => by
   have hnext : ∀ M, addGo (pa L (L.length - 1 - 0)) (pa L (L.length - 1 - 0)).length 0 [] = some M → True := fun _ _ => trivial
   have h0 : rightB ([] : List Line) = true := by decide +kernel
   have hp0 : paths ([] : List Line) = [] := rfl
   have hd := (right_parts hr).2.1
   refine ⟨h0, fun q => ?_, fun hlt => ?_⟩
   · show q ∈ paths ([] : List Line) ↔ _
     rw [hp0]
     constructor
     · intro h; simp at h
     · rintro ⟨m, j, h1, h2, -⟩; omega
   · have hi : L.length - 1 - 0 < L.length := by omega
     obtain ⟨s1, s2⟩ := pa_sound hr hi
     obtain ⟨M, hM⟩ := addGo_some s1 s2 (S := paths L) (by rw [paths_length]; omega) (fun j j1 j2 => by
      obtain ⟨m, hm, e⟩ := head_at hd hi j1 j2
      rw [← e]; exact mem_paths.2 ⟨m, by omega, rfl⟩) (pa L (L.length - 1 - 0)).length 0 [] (by omega) h0 (.inl rfl) (fun q hq => by rw [hp0] at hq; simp at hq)
     have := addB_ok h0 s1 s2 hM
     show addB [] _ = ((addB [] _).1, 0)
     rw [this]
 | k + 1, hk => by
   obtain ⟨r1, r2, r3⟩ := made_spec hr h60 k (by omega)
   have hd := (right_parts hr).2.1
   have hi : L.length - 1 - k < L.length := by omega
   obtain ⟨s1, s2⟩ := pa_sound hr hi
   have hin : ∀ i, i < L.length → ∀ j, 1 ≤ j → j ≤ (pa L i).length → (pa L i).take j ∈ paths L := fun i hi j j1 j2 => by
    obtain ⟨m, hm, e⟩ := head_at hd hi j1 j2
    rw [← e]; exact mem_paths.2 ⟨m, by omega, rfl⟩
   have hS : (paths L).length < 200 := by rw [paths_length]; omega
   obtain ⟨M, hM⟩ := addGo_some s1 s2 hS (hin _ hi) (pa L (L.length - 1 - k)).length 0 (madeB L k) (by omega) r1 (.inl rfl) (fun q hq => by
    obtain ⟨m, j, -, h2, h3, h4, e⟩ := (r2 q).1 hq
    rw [e]; exact hin m h2 j h3 h4)
   have e := addB_ok r1 s1 s2 hM
   have eM : madeB L (k + 1) = M := by
    show (addB (madeB L k) (pa L (L.length - 1 - k))).1 = M
    rw [e]
   obtain ⟨g1, g2⟩ := addGo_spec s1 s2 _ 0 (madeB L k) M (by omega) r1 (.inl rfl) hM
   have hmem : ∀ q, q ∈ paths (madeB L (k + 1)) ↔ ∃ m j, L.length - (k + 1) ≤ m ∧ m < L.length ∧ 1 ≤ j ∧ j ≤ (pa L m).length ∧ q = (pa L m).take j := fun q => by
    rw [eM, g2, r2]
    constructor
    · rintro (⟨m, j, h1, h2, h3, h4, e⟩ | ⟨j, h1, h2, e⟩)
      · exact ⟨m, j, by omega, h2, h3, h4, e⟩
      · exact ⟨L.length - 1 - k, j, by omega, hi, by omega, h2, e⟩
    · rintro ⟨m, j, h1, h2, h3, h4, e⟩
      by_cases hm : m = L.length - 1 - k
      · subst hm; exact .inr ⟨j, by omega, h4, e⟩
      · exact .inl ⟨m, j, by omega, h2, h3, h4, e⟩
   refine ⟨by rw [eM]; exact g1, hmem, fun hlt => ?_⟩
   have hi2 : L.length - 1 - (k + 1) < L.length := by omega
   obtain ⟨t1, t2⟩ := pa_sound hr hi2
   have g1' : rightB (madeB L (k + 1)) = true := by rw [eM]; exact g1
   obtain ⟨M2, hM2⟩ := addGo_some t1 t2 hS (hin _ hi2) (pa L (L.length - 1 - (k + 1))).length 0 (madeB L (k + 1)) (by omega) g1' (.inl rfl) (fun q hq => by
    obtain ⟨m, j, -, h2, h3, h4, e⟩ := (hmem q).1 hq
    rw [e]; exact hin m h2 j h3 h4)
   have e2 := addB_ok g1' t1 t2 hM2
   show addB (madeB L (k + 1)) _ = ((addB (madeB L (k + 1)) _).1, 0)
   rw [e2]
theorem made_paths {L : List Line} (hr : rightB L = true) (h60 : L.length ≤ 60) : rightB (madeB L L.length) = true ∧ paths (madeB L L.length) = paths L := by
 obtain ⟨r1, r2, -⟩ := made_spec hr h60 L.length (Nat.le_refl _)
 have hd := (right_parts hr).2.1
 refine ⟨r1, sorted_same (tree_of r1).1.1 (tree_of hr).1.1 fun q => ?_⟩
 rw [r2]
 constructor
 · rintro ⟨m, j, -, h2, h3, h4, e⟩
   obtain ⟨m2, hm, e3⟩ := head_at hd h2 h3 h4
   rw [e, ← e3]; exact mem_paths.2 ⟨m2, by omega, rfl⟩
 · intro hq
   obtain ⟨m, hm, rfl⟩ := mem_paths.1 hq
   have hl := pa_len hd hm
   exact ⟨m, (pa L m).length, by omega, hm, by omega, Nat.le_refl _, by rw [List.take_length]⟩
end Lns
namespace Go.Proofs.YtjdknhalcpkeaaaGreatDoor
open Go Go.ChangeShapes Go.WideShapes Go.Deep Go.RowKit Rte
section
variable {H : Type} {enc : TypeId × Value → H} {P : Program} {w : World} {base : Nat} {spare : Nat → Bool} {held : Bool}
theorem field_ent {e : TypeId} {fs : Array Field} {n : Nat} {b : Addr} {x : DataW H × List MemPlace} {cs : List Value} (he : P.underlying e = some (.struct fs)) (hone : oneCellFields P fs = true) (hC : P.cellsOf e = fs.size)
 (hc : w.cells? base b (P.cellsOf e) = some cs) (ht : DataW.trod enc P w base spare held n e cs = some x) (j : Nat) (f : Field) (hj : fs[j]? = some f) :
 ∃ v y m, w.cell? (b.add j) = some v ∧ DataW.trod enc P w base spare held m f.type [v] = some y := by
 obtain ⟨ys, m, -, -, -, hyl, hf⟩ := DataW.trod_struct he ht
 obtain ⟨-, hl, hat⟩ := World.cells?_some hc
 obtain ⟨ho, hk⟩ := hone_of hone j f hj
 have hjs : j < fs.size := (Array.getElem?_eq_some_iff.1 hj).1
 have hjc : j < cs.length := by omega
 have hd : (cs.drop j).take 1 = [cs[j]] := by rw [List.drop_eq_getElem_cons hjc]; rfl
 have h1 := hf j f hj
 rw [ho, hk, hd] at h1
 exact ⟨cs[j], ys[j]'(by omega), m, (hat j (by omega)).trans (List.getElem?_eq_getElem hjc), h1.trans (List.getElem?_eq_getElem (by omega))⟩
theorem open_ents {r : Reach} {b0 : Nat} {t e : TypeId} {f0 f1 f2 f3 : Field} {v : Value} {d : DataW H} {p : List MemPlace} (ht : P.underlying t = some (.slice e)) (he : P.underlying e = some (.struct #[f0, f1, f2, f3]))
 (hone : oneCellFields P #[f0, f1, f2, f3] = true) (hC : P.cellsOf e = 4) (u0 : P.underlying f0.type = some .string) (u1 : P.underlying f1.type = some (.int .i64)) (u2 : P.underlying f2.type = some .string) (u3 : P.underlying f3.type = some .string)
 (hv : Value.okWide P w r b0 t v) (h : DataW.Trod enc P w base spare held t v d p) :
 ∃ (A : Option Addr) (cap : Nat) (L : List Ent), v = .slice A L.length cap ∧ L.length ≤ cap ∧ cap ≤ maxLen ∧ Rd w 4 A L.length (ents L) := by
 obtain ⟨a0, len, cap, rfl⟩ := okWide_slice ht hv
 obtain ⟨fuel, hf⟩ := h
 rcases open_slice ht hf with ⟨hcs, -⟩ | ⟨a, len', cap', m, n, D, Pl, hcs, -, hl, hm, hmm, -, hi⟩
 · simp [Value.cells] at hcs
   obtain ⟨rfl, rfl, rfl⟩ := hcs
   exact ⟨none, 0, [], rfl, Nat.le_refl _, by unfold maxLen; omega, Rd.nil⟩
 · simp [Value.cells] at hcs
   obtain ⟨rfl, rfl, rfl⟩ := hcs
   have hlm : len ≤ m := by rw [hmm]; split <;> omega
   have each : ∀ i, ∃ x : Ent, i < len → w.cell? (a.add (i * 4)) = some (.string x.host) ∧ w.cell? (a.add (i * 4 + 1)) = some (.int .i64 x.kind) ∧ w.cell? (a.add (i * 4 + 2)) = some (.string x.key) ∧ w.cell? (a.add (i * 4 + 3)) = some (.string x.val) := by
    intro i
    by_cases hlt : i < len
    · obtain ⟨cs, hc, htr⟩ := hi i (by omega)
      have F := field_ent he hone hC hc htr
      obtain ⟨v0, y0, m0, c0, t0⟩ := F 0 f0 rfl
      obtain ⟨v1, y1, m1, c1, t1⟩ := F 1 f1 rfl
      obtain ⟨v2, y2, m2, c2, t2⟩ := F 2 f2 rfl
      obtain ⟨v3, y3, m3, c3, t3⟩ := F 3 f3 rfl
      obtain ⟨s0, e0, -⟩ := DataW.trod_string u0 t0
      obtain ⟨k1, e1, -⟩ := DataW.trod_int u1 t1
      obtain ⟨s2, e2, -⟩ := DataW.trod_string u2 t2
      obtain ⟨s3, e3, -⟩ := DataW.trod_string u3 t3
      injection e0 with e0
      injection e1 with e1
      injection e2 with e2
      injection e3 with e3
      rw [add_twice, hC] at c0 c1 c2 c3
      exact ⟨⟨s0, k1, s2, s3⟩, fun _ => ⟨by rw [← e0]; exact c0, by rw [← e1]; exact c1, by rw [← e2]; exact c2, by rw [← e3]; exact c3⟩⟩
    · exact ⟨⟨⟨#[]⟩, 0, ⟨#[]⟩, ⟨#[]⟩⟩, fun h => absurd h hlt⟩
   obtain ⟨f, hfx⟩ := Classical.axiomOfChoice each
   refine ⟨some a, cap, (List.range len).map f, by simp, by simpa using hl, hm, by rw [ents_length], fun hn => ?_⟩
   have hn' : 0 < len := by simpa using hn
   refine ⟨a, rfl, Lib.lt_of_cell (a := a) (by have := (hfx 0 hn').1; simpa [Addr.add] using this), fun j u hu => ?_⟩
   have hj : j < ((List.range len).map f).length * 4 := by
    have := (List.getElem?_eq_some_iff.1 hu).1
    rwa [ents_length] at this
   have hj' : j < len * 4 := by simpa using hj
   obtain ⟨i, q, rfl, hq⟩ : ∃ i q, j = i * 4 + q ∧ q < 4 := ⟨j / 4, j % 4, by omega, by omega⟩
   have hil : i < len := by omega
   rw [ents_get _ i q (by simpa using hil) hq] at hu
   obtain ⟨g0, g1, g2, g3⟩ := hfx i hil
   simp only [List.getElem_map, List.getElem_range, Ent.cells] at hu
   match q, hq with
   | 0, _ => rw [← hu]; simpa using g0
   | 1, _ => rw [← hu]; simpa using g1
   | 2, _ => rw [← hu]; simpa using g2
   | 3, _ => rw [← hu]; simpa using g3
end
end Go.Proofs.YtjdknhalcpkeaaaGreatDoor
namespace Go.Proofs.YtjdknhalcpkeaaaGreatDoor
open Go Go.ChangeShapes Go.WideShapes Go.Deep Go.RowKit Rte
section
variable {H : Type} {enc : TypeId × Value → H} {P : Program} {w : World} {base : Nat} {spare : Nat → Bool} {held : Bool}
theorem open_ent {r : Reach} {b0 : Nat} {t : TypeId} {f0 f1 f2 f3 : Field} {v : Value} {d : DataW H} {p : List MemPlace} (hs : P.underlying t = some (.struct #[f0, f1, f2, f3])) (hone : oneCellFields P #[f0, f1, f2, f3] = true) (hC : P.cellsOf t = 4)
 (u0 : P.underlying f0.type = some .string) (u1 : P.underlying f1.type = some (.int .i64)) (u2 : P.underlying f2.type = some .string) (u3 : P.underlying f3.type = some .string)
 (hv : Value.okWide P w r b0 t v) (h : DataW.Trod enc P w base spare held t v d p) :
 ∃ x : Ent, v = x.agg ∧ d = .agg [.lit (.string x.host.data.toList), .lit (.int .i64 x.kind), .lit (.string x.key.data.toList), .lit (.string x.val.data.toList)] ∧ p = [] := by
 obtain ⟨v0, v1, v2, v3, y0, y1, y2, y3, n, rfl, rfl, rfl, t0, t1, t2, t3⟩ := Go.Joins.open_agg4 hs hone hC hv h
 obtain ⟨s0, e0, rfl, -⟩ := DataW.trod_string u0 t0
 obtain ⟨k1, e1, rfl, -⟩ := DataW.trod_int u1 t1
 obtain ⟨s2, e2, rfl, -⟩ := DataW.trod_string u2 t2
 obtain ⟨s3, e3, rfl, -⟩ := DataW.trod_string u3 t3
 injection e0 with e0
 injection e1 with e1
 injection e2 with e2
 injection e3 with e3
 subst e0 e1 e2 e3
 exact ⟨⟨s0, k1, s2, s3⟩, rfl, rfl, rfl⟩
theorem open_nil {t e : TypeId} {n cap : Nat} {d : DataW H} {p : List MemPlace} (ht : P.underlying t = some (.slice e)) (h : DataW.Trod enc P w base spare held t (.slice none n cap) d p) : cap = 0 := by
 obtain ⟨fuel, hf⟩ := h
 rcases open_slice ht hf with ⟨hcs, -⟩ | ⟨a, len', cap', m, n', D, Pl, hcs, -⟩
 · simp [Value.cells] at hcs; exact hcs.2
 · simp [Value.cells] at hcs
end
end Go.Proofs.YtjdknhalcpkeaaaGreatDoor
