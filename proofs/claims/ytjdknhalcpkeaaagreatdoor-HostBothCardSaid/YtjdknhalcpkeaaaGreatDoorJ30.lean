/- Walks: cmp.Or of ints, host.Compare. Words for memory: a row of entries of the call's own that is turned in place. Plain: the tables of a tree by its paths, the code's way and the document's: they have the same entries where the tree has no fault. -/
import Derived.StillTailTactics
import Derived.Shelf.SlSortCmp.NoneTotal
import Derived.Test.YtjdknhalcpkeaaaGreatDoorJ29
import Derived.Test.YtjdknhalcpkeaaaGreatDoorJ03
import Derived.Test.YtjdknhalcpkeaaaGreatDoorJ01
import Derived.Test.YtjdknhalcpkeaaaGreatDoorJ20
namespace Hst
open Go Rte
def firstNZ : List Int → Int
 | [] => 0
 | x :: l => if x = 0 then firstNZ l else x
def ivI (l : List Int) : List Value := l.map (Value.int .i64)
theorem firstNZ_four (a b c d : Int) : firstNZ [a, b, c, d] = orC a (orC b (orC c d)) := by
 unfold firstNZ firstNZ firstNZ firstNZ firstNZ orC
 by_cases h1 : a = 0 <;> by_cases h2 : b = 0 <;> by_cases h3 : c = 0 <;> by_cases h4 : d = 0 <;> simp [h1, h2, h3, h4]
end Hst
namespace Go.Proofs.YtjdknhalcpkeaaaGreatDoor
open Go Go.RowKit Go.Sort Rte Hst
set_option maxHeartbeats 1000000 in
theorem or_any (b c : Nat) (l : List Int) (w : World) (hl : l.length ≤ 1000) (hR : ∀ j u, (ivI l)[j]? = some u → w.cell? ⟨b, j, none⟩ = some u) :
 Calls Tryz.prog 40 #[.slice (some ⟨b, 0, none⟩) l.length c] w fun e w' => e = .returned (.int .i64 (firstNZ l)) ∧ w' = w := by
 have HX := Lib.hid hR
 clear hR
 go_enter Tryz.func40, Tryz.ntmps40
 go_wp2
 go_loopw [8] (fun vi wr => ∃ k : Nat, k ≤ l.length ∧ vi = .int .i64 k ∧ wr = w ∧ Hid (firstNZ l = firstNZ (l.drop k))) (fun vi _ => l.length - (intOf vi).toNat)
 case atStart => exact ⟨0, Nat.zero_le _, rfl, rfl, rfl⟩
 case round =>
  obtain ⟨k, hk, rfl, rfl, HQ⟩ := hrel
  by_cases hlt : k < l.length
  · have hx := HX.out k (.int .i64 l[k]) (by unfold ivI; simp [hlt])
    have hst : firstNZ l = if l[k] = 0 then firstNZ (l.drop (k + 1)) else l[k] := by rw [HQ.out, List.drop_eq_getElem_cons hlt]; rfl
    have HST := Lib.hid hst
    have hadd : (⟨b, 0, none⟩ : Addr).add k = ⟨b, k, none⟩ := by rw [add_plain, Nat.zero_add]
    clear hst HQ
    generalize l[k] = x at *
    by_cases h0 : x = 0
    · have HN : Hid (firstNZ l = firstNZ (l.drop (k + 1))) := by show _ = _; rw [HST.out, if_pos h0]
      subst h0
      clear HST
      go_wp2
      go_roundw
      case rel => exact ⟨k + 1, by omega, by go_num, by simp, HN⟩
      case measure => simp [intOf]; omega
    · have HN : Hid (firstNZ l = x) := by show _ = _; rw [HST.out, if_neg h0]
      have h0' : (x == 0) = false := by rw [beq_eq_false_iff_ne]; exact h0
      clear HST
      go_wp2
      go_ret
      exact ⟨by rw [HN.out]; rfl, rfl⟩
  · have HN : Hid (firstNZ l = 0) := by
     show _ = _
     rw [HQ.out, List.drop_eq_nil_of_le (by omega)]; rfl
    have hk' : k = l.length := by omega
    clear HQ
    go_wp2
    go_ret
    exact ⟨by rw [HN.out]; rfl, rfl⟩
theorem cell_two {w : World} (T T2 : TypeId) (a b : Array Value) : ∃ w0, (w.alloc (.cells a T)).alloc (.cells b T2) = w0 ∧ w0.heap.size = w.heap.size + 2 ∧ (∀ j, w0.cell? ⟨w.heap.size, j, none⟩ = a[j]?) ∧ (∀ j, w0.cell? ⟨w.heap.size + 1, j, none⟩ = b[j]?) ∧ ∃ os, w0 = grow w os := by
 refine ⟨_, rfl, by simp, fun j => ?_, fun j => ?_, #[.cells a T, .cells b T2], ?_⟩
 · rw [World.cell?_alloc_lt _ _ _ (by simp), World.cell?_alloc_at _ _ _ _ rfl]
 · rw [World.cell?_alloc_at _ _ _ _ (by simp)]
 · unfold grow World.alloc
   have e : (w.heap.push (Obj.cells a T)).push (Obj.cells b T2) = w.heap ++ #[Obj.cells a T, Obj.cells b T2] := Array.toList_inj.1 (by simp)
   rw [← e]
theorem grow_drew_alloc (w : World) (os : Array Obj) (o : Obj) : (grow w os).drew.alloc o = grow (w.drewN 1) (os.push o) := by
 have e : (w.heap ++ os).push o = w.heap ++ os.push o := Array.toList_inj.1 (by simp)
 simp only [grow, World.alloc, World.drew, World.drewN, e]
set_option maxHeartbeats 4000000 in
set_option maxRecDepth 100000 in
theorem compare_any (a b : Ent) (w : World) : Calls Tryz.prog 19 #[a.agg, b.agg] w fun e w' => e = .returned (.int .i64 (cmpE a b)) ∧ ∃ q os', w' = grow (w.drewN q) os' := by
 unfold Ent.agg
 obtain ⟨w0, hw0, hsz, ha, hb, os, hos⟩ := cell_two (w := w) 35 35 #[.string a.host, .int .i64 a.kind, .string a.key, .string a.val] #[.string b.host, .int .i64 b.kind, .string b.key, .string b.val]
 obtain ⟨wb, hwb⟩ : ∃ wb, w.heap.size = wb := ⟨_, rfl⟩
 rw [hwb] at ha hb
 have a0 : w0.cell? ⟨wb, 0, none⟩ = some (.string a.host) := ha 0
 have a1 : w0.cell? ⟨wb, 1, none⟩ = some (.int .i64 a.kind) := ha 1
 have a2 : w0.cell? ⟨wb, 2, none⟩ = some (.string a.key) := ha 2
 have a3 : w0.cell? ⟨wb, 3, none⟩ = some (.string a.val) := ha 3
 have b0 : w0.cell? ⟨wb + 1, 0, none⟩ = some (.string b.host) := hb 0
 have b1 : w0.cell? ⟨wb + 1, 1, none⟩ = some (.int .i64 b.kind) := hb 1
 have b2 : w0.cell? ⟨wb + 1, 2, none⟩ = some (.string b.key) := hb 2
 have b3 : w0.cell? ⟨wb + 1, 3, none⟩ = some (.string b.val) := hb 3
 have c1 := fun W => Tryz.strings_Compare a.host b.host W
 have c2 := fun W => Tryz.cmp_Compare_int a.kind b.kind W
 have c3 := fun W => Tryz.strings_Compare a.key b.key W
 have c4 := fun W => Tryz.strings_Compare a.val b.val W
 have HX : Hid (cmpE a b = firstNZ [Lib.compareBytes a.host.data.toList b.host.data.toList, Lib.compareInt a.kind b.kind, Lib.compareBytes a.key.data.toList b.key.data.toList, Lib.compareBytes a.val.data.toList b.val.data.toList]) := by
  show _ = _
  rw [firstNZ_four]; rfl
 have HS := Lib.hid hsz
 have HOS := Lib.hid hos
 have HWB := Lib.hid hwb
 clear ha hb hsz hos
 generalize Lib.compareBytes a.host.data.toList b.host.data.toList = x1 at *
 generalize Lib.compareInt a.kind b.kind = x2 at *
 generalize Lib.compareBytes a.key.data.toList b.key.data.toList = x3 at *
 generalize Lib.compareBytes a.val.data.toList b.val.data.toList = x4 at *
 have C1 := Lib.hid c1
 have C2 := Lib.hid c2
 have C3 := Lib.hid c3
 have C4 := Lib.hid c4
 clear c1 c2 c3 c4
 go_enter Tryz.func19, Tryz.ntmps19
 go_wp2_with fail
 refine wp_region_still_tail 20 (by kernel_rfl) (by kernel_rfl) ?_
 simp only [List.take_succ_cons, List.take_zero, List.drop_succ_cons, List.drop_zero]
 repeat (first | still_step | still_call (C1.out _) | still_call (C2.out _) | still_call (C3.out _) | still_call (C4.out _))
 refine wpStill_nil ?_
 change wpList _ _ _ _ _ w0.drew
 obtain ⟨w1, hw1⟩ : ∃ w1, w0.drew = w1 := ⟨_, rfl⟩
 have HW1 := Lib.hid hw1
 rw [hw1]
 have HOr : Hid (Calls Tryz.prog 40 #[.slice (some ⟨w1.heap.size, 0, none⟩) 4 4] (w1.alloc (.cells #[.int .i64 x1, .int .i64 x2, .int .i64 x3, .int .i64 x4] 3)) fun e w' => e = .returned (.int .i64 (firstNZ [x1, x2, x3, x4])) ∧ w' = w1.alloc (.cells #[.int .i64 x1, .int .i64 x2, .int .i64 x3, .int .i64 x4] 3)) :=
  or_any w1.heap.size 4 [x1, x2, x3, x4] _ (by simp) (fun j u hu => by rw [World.cell?_alloc_at _ _ _ _ rfl]; simpa [ivI] using hu)
 clear hw0 hw1 a0 a1 a2 a3 b0 b1 b2 b3 hwb
 go_wp2_with (go_at_call 40; refine HOr.out.mono ?_; rintro e w' ⟨rfl, rfl⟩)
 go_ret
 refine ⟨by rw [HX.out]; rfl, 1, os.push (.cells #[.int .i64 x1, .int .i64 x2, .int .i64 x3, .int .i64 x4] 3), ?_⟩
 rw [← HW1.out, HOS.out]
 exact grow_drew_alloc w os _
end Go.Proofs.YtjdknhalcpkeaaaGreatDoor
namespace Go.Proofs.YtjdknhalcpkeaaaGreatDoor
open Go Go.RowKit Go.Sort Rte Hst
structure Kh (w0 : World) (blk : Nat) (W : World) : Prop where
 os : W.os = w0.os
 tape : W.tape = w0.tape
 output : W.output = w0.output
 size : w0.heap.size ≤ W.heap.size
 block : ∀ k, k < w0.heap.size → k ≠ blk → W.heap[k]? = w0.heap[k]?
structure Rw (w0 : World) (g : Nat) (L : List Ent) (W : World) : Prop where
 kp : Kh w0 g W
 lt : g < w0.heap.size
 holds : ∀ j u, (ents L)[j]? = some u → W.cell? ⟨g, j, none⟩ = some u ∧ W.frozen? ⟨g, j, none⟩ = false
section
variable {w0 W W' : World} {g : Nat} {L : List Ent}
theorem Kh.refl (w : World) (blk : Nat) : Kh w blk w := ⟨rfl, rfl, rfl, Nat.le_refl _, fun _ _ _ => rfl⟩
theorem Kh.below {blk : Nat} (h : Kh w0 blk W) (hb : Below W.heap.size W W') : Kh w0 blk W' :=
 ⟨hb.os.trans h.os, hb.tape.trans h.tape, hb.output.trans h.output, Nat.le_trans h.size hb.size, fun k hk hn => (hb.block k (Nat.lt_of_lt_of_le hk h.size)).trans (h.block k hk hn)⟩
theorem Kh.trans {blk : Nat} {a b c : World} (h : Kh a blk b) (k : Kh b blk c) : Kh a blk c :=
 ⟨k.os.trans h.os, k.tape.trans h.tape, k.output.trans h.output, Nat.le_trans h.size k.size, fun q hq hn => (k.block q (Nat.lt_of_lt_of_le hq h.size) hn).trans (h.block q hq hn)⟩
theorem Kh.set {blk : Nat} (h : Kh w0 blk W) (o : Nat) (v : Value) : Kh w0 blk (W.setCell ⟨blk, o, none⟩ v) :=
 ⟨h.os, h.tape, h.output, by simpa using h.size, fun k hk hn => (Below.heap_setCell W ⟨blk, o, none⟩ v k hn).trans (h.block k hk hn)⟩
theorem Rw.below (h : Rw w0 g L W) (hb : Below W.heap.size W W') : Rw w0 g L W' :=
 ⟨h.kp.below hb, h.lt, fun j u hu => by
  have hl : g < W.heap.size := Nat.lt_of_lt_of_le h.lt h.kp.size
  exact ⟨(hb.cell (p := ⟨g, j, none⟩) hl).trans (h.holds j u hu).1, (hb.frozen (p := ⟨g, j, none⟩) hl).trans (h.holds j u hu).2⟩⟩
theorem Rw.of_own {w : World} {base n c : Nat} {T : TypeId} (h : w.ownsRow base T 4 (.slice (some ⟨g, 0, none⟩) n c) n (ents L)) : Rw w g L w :=
 ⟨Kh.refl _ _, (h.lt g rfl).2, fun j u hu => ⟨by
  have hj : j < (ents L).length := (List.getElem?_eq_some_iff.1 hu).1
  have hl := h.1
  rw [h.cellAt j (by omega)]; exact hu, h.frozenAt j⟩⟩
theorem below_kh {w wr : World} (hb : Below w.heap.size w wr) (hk : Kh wr g W) (hg : w.heap.size ≤ g) : Below w.heap.size w W :=
 ⟨hk.os.trans hb.os, hk.tape.trans hb.tape, hk.output.trans hb.output, Nat.le_trans hb.size hk.size, fun k hlt => (hk.block k (Nat.lt_of_lt_of_le hlt hb.size) (by omega)).trans (hb.block k hlt)⟩
theorem Rw.ent (h : Rw w0 g L W) {i : Nat} (hi : i < L.length) :
 W.cell? ⟨g, i * 4, none⟩ = some (.string L[i].host) ∧ W.cell? ⟨g, i * 4 + 1, none⟩ = some (.int .i64 L[i].kind) ∧ W.cell? ⟨g, i * 4 + 2, none⟩ = some (.string L[i].key) ∧ W.cell? ⟨g, i * 4 + 3, none⟩ = some (.string L[i].val) := by
 have q := fun j (hj : j < 4) => ents_get L i j hi hj
 refine ⟨?_, ?_, ?_, ?_⟩
 · exact (h.holds (i * 4) _ (by have := q 0 (by omega); simpa [Ent.cells] using this)).1
 · exact (h.holds (i * 4 + 1) _ (by have := q 1 (by omega); simpa [Ent.cells] using this)).1
 · exact (h.holds (i * 4 + 2) _ (by have := q 2 (by omega); simpa [Ent.cells] using this)).1
 · exact (h.holds (i * 4 + 3) _ (by have := q 3 (by omega); simpa [Ent.cells] using this)).1
theorem Rw.rd (h : Rw w0 g L W) : Rd W 4 (some ⟨g, 0, none⟩) L.length (ents L) :=
 ⟨ents_length L, fun _ => ⟨_, rfl, Nat.lt_of_lt_of_le h.lt h.kp.size, fun j u hu => by rw [add_plain, Nat.zero_add]; exact (h.holds j u hu).1⟩⟩
theorem flat_at {j : Nat} (hj : j < L.length * 4) : (ents L)[j]? = some (L.toArray[j / 4]!.cells[j % 4]!) := by
 have hi : j / 4 < L.length := by omega
 have e := ents_get L (j / 4) (j % 4) hi (by omega)
 rw [show j / 4 * 4 + j % 4 = j by omega] at e
 rw [e]
 have hc : j % 4 < (L[j / 4]).cells.length := by simp [Ent.cells]; omega
 rw [List.getElem?_eq_getElem hc, getElem!_pos L.toArray (j / 4) (by simpa using hi)]
 simp only [List.getElem_toArray]
 exact congrArg some (getElem!_pos (L[j / 4]).cells (j % 4) hc).symm
theorem Rw.holdsK (h : Rw w0 g L W) : HoldsK Ent.cells 4 W g 0 L.toArray := by
 intro j hj
 rw [size_flatK] at hj
 have hj' : j < L.length * 4 := by simpa using hj
 have := h.holds j _ (flat_at hj')
 rw [Nat.zero_add, get_flatK _ _ _ _ hj]
 exact this
theorem Rw.of_sort {d : Array Ent} {n : Nat} {os : Array Obj} (h : Rw W g L W) (hd : d.size = L.length) : Rw W g d.toList (sortWorldK Ent.cells 4 W g 0 n d os) := by
 have hH := holdsK_sortWorldK_c Ent.cells 4 W g 0 L.toArray d n os h.holdsK h.lt (by simpa using hd)
 refine ⟨⟨rfl, rfl, rfl, size_sortWorldK_c Ent.cells 4 W g 0 n d os, fun k hk hn => ?_⟩, h.lt, fun j u hu => ?_⟩
 · unfold sortWorldK grow putRowK putRow mapBlock
   show ((Array.modify _ g _) ++ os)[k]? = _
   rw [Array.getElem?_append_left (by rw [Array.size_modify]; exact hk), Array.getElem?_modify, if_neg (fun e => hn e.symm)]
   rfl
 · have hj : j < d.toList.length * 4 := by rw [← ents_length]; exact (List.getElem?_eq_some_iff.1 hu).1
   have hj2 : j < (flatK Ent.cells 4 d).size := by rw [size_flatK]; simpa using hj
   have := hH j hj2
   rw [Nat.zero_add, get_flatK _ _ _ _ (by simpa using hj)] at this
   rw [flat_at hj] at hu
   injection hu with hu
   rw [← hu]
   simpa using this
end
end Go.Proofs.YtjdknhalcpkeaaaGreatDoor
namespace Hst
open Go Go.Lib Rte Sch Tre
abbrev emB : ByteArray := ⟨#[]⟩
def wLocal : ByteArray := ⟨#[108, 111, 99, 97, 108]⟩
def wAny : ByteArray := ⟨#[97, 110, 121]⟩
def wZero : ByteArray := ⟨#[48]⟩
def spB (a b : ByteArray) : ByteArray := a ++ ⟨#[32]⟩ ++ b
section
variable (S : List (List ByteArray))
def oneU (other : ByteArray) (P : List ByteArray) : ByteArray := (kw S P).headD other
def addrU (h : ByteArray) : ByteArray := oneU S emB [wHosts, h, wIp]
def inU (h v : ByteArray) : Bool := memB v (kw S [wHosts, h, wVnis])
def floodsU (h : ByteArray) : List Ent :=
 (kw S [wHosts, h, wVnis]).flatMap fun v => ((kw S [wHosts]).filter fun g => !(decide (g = h)) && inU S g v).map fun g => ⟨h, 1, v, addrU S g⟩
def vniU (i : ByteArray) : ByteArray := oneU S emB [wBind, i, wVni]
def macU (i : ByteArray) : ByteArray := oneU S emB [wBind, i, wMac]
def ownU (i : ByteArray) : ByteArray := oneU S emB [wBind, i, wHost]
def bindU (h i : ByteArray) : List Ent :=
 if inU S h (vniU S i) then ⟨h, 2, spB (vniU S i) i, macU S i⟩ :: (if ownU S i = h then [] else [⟨h, 3, spB (vniU S i) (macU S i), addrU S (ownU S i)⟩]) else []
def bindingsU (h : ByteArray) : List Ent := (kw S [wBind]).flatMap (bindU S h)
def viaU (p : ByteArray) : ByteArray := oneU S emB [wRoutes, p, wVia]
def routeU (h p : ByteArray) : Ent := ⟨h, 4, p, spB (if viaU S p = h then wLocal else addrU S (viaU S p)) (oneU S wZero [wRoutes, p, wMetric])⟩
def routesU (h : ByteArray) : List Ent := (kw S [wRoutes]).map (routeU S h)
def polU (h k : ByteArray) : Ent := ⟨h, 5, k, spB (spB (oneU S emB [wPolicy, k, wAction]) (oneU S wAny [wPolicy, k, wFrom])) (oneU S wAny [wPolicy, k, wTo])⟩
def polsU (h : ByteArray) : List Ent := (kw S [wPolicy]).map (polU S h)
def hostU (h : ByteArray) : List Ent := floodsU S h ++ bindingsU S h ++ routesU S h ++ polsU S h
def allU : List Ent := (kw S [wHosts]).flatMap (hostU S)
def netsD (h g : ByteArray) : List Ent := ((kw S [wVnis]).filter fun v => !(decide (h = g)) && inU S h v && inU S g v).map fun v => ⟨h, 1, v, addrU S g⟩
def bindD (h g i : ByteArray) : List Ent :=
 if !(decide (ownU S i = g)) || !(inU S h (vniU S i)) then [] else ⟨h, 2, spB (vniU S i) i, macU S i⟩ :: (if g = h then [] else [⟨h, 3, spB (vniU S i) (macU S i), addrU S g⟩])
def bindsD (h g : ByteArray) : List Ent := (kw S [wBind]).flatMap (bindD S h g)
def routeD (h g p : ByteArray) : List Ent := if viaU S p = g then [⟨h, 4, p, spB (if g = h then wLocal else addrU S g) (oneU S wZero [wRoutes, p, wMetric])⟩] else []
def routesD (h g : ByteArray) : List Ent := (kw S [wRoutes]).flatMap (routeD S h g)
def pairsD (h g : ByteArray) : List Ent := netsD S h g ++ bindsD S h g ++ routesD S h g
def allD : List Ent := (kw S [wHosts]).flatMap fun h => (kw S [wHosts]).flatMap (pairsD S h) ++ polsU S h
end
structure Trs (S : List (List ByteArray)) : Prop where
 ne : ∀ P ∈ S, P ≠ []
 pre : ∀ P ∈ S, ∀ q, 1 ≤ q → q ≤ P.length → P.take q ∈ S
theorem trs_paths {L : List Line} (hr : rightB L = true) : Trs (paths L) where
 ne P hP := by
  obtain ⟨j, hj, rfl⟩ := mem_paths.1 hP
  intro e
  have := pa_len (right_parts hr).2.1 hj
  rw [e] at this; simp at this
 pre P hP q h1 h2 := by
  obtain ⟨j, hj, rfl⟩ := mem_paths.1 hP
  obtain ⟨m, hm, e⟩ := head_at (right_parts hr).2.1 hj h1 h2
  exact mem_paths.2 ⟨m, by omega, e⟩
section
variable {S : List (List ByteArray)}
theorem mem_kw {P : List ByteArray} {x : ByteArray} : x ∈ kw S P ↔ P ++ [x] ∈ S := by
 unfold kw
 rw [List.mem_map]
 constructor
 · rintro ⟨q, hq, rfl⟩
   obtain ⟨h1, h2⟩ := List.mem_filter.1 hq
   obtain ⟨w, rfl⟩ := isKid_iff.1 h2
   simpa using h1
 · intro h
   exact ⟨P ++ [x], List.mem_filter.2 ⟨h, isKid_iff.2 ⟨x, rfl⟩⟩, by simp⟩
theorem Trs.front (h : Trs S) {P Q : List ByteArray} (hP : P ≠ []) (hm : P ++ Q ∈ S) : P ∈ S := by
 have := h.pre _ hm P.length (by cases P with | nil => exact absurd rfl hP | cons a l => simp) (by simp)
 simpa using this
theorem all_known (h : Trs S) (hc : checkS S = []) : ∀ n, ∀ P ∈ S, P.length = n → ∃ r, ruleOf P = some r ∧ lineS S r P = [] := by
 intro n
 induction n using Nat.strongRecOn with
 | ind n ih =>
   intro P hP hn
   have hal : aliveP P = true := by
    rw [alive_iff]
    intro q h1 h2
    obtain ⟨r, hr, -⟩ := ih q (by omega) (P.take q) (h.pre P hP q h1 (by omega)) (by rw [List.length_take]; omega)
    unfold known; rw [hr]; rfl
   have hf : faultsS S P = [] := by
    unfold checkS at hc
    rw [List.flatMap_eq_nil_iff] at hc
    exact hc P hP
   unfold faultsS at hf
   rw [if_pos hal] at hf
   cases hr : ruleOf P with
   | none => rw [hr] at hf; simp at hf
   | some r => rw [hr] at hf; exact ⟨r, rfl, hf⟩
theorem line_parts {r : Rule} {P : List ByteArray} (h : lineS S r P = []) : oneS (kw S P) r P = [] ∧ missS (kw S P) P = [] ∧ meantS S r.path P = false := by
 unfold lineS at h
 rw [List.append_eq_nil_iff, List.append_eq_nil_iff] at h
 refine ⟨h.1.1, h.1.2, ?_⟩
 cases hm : meantS S r.path P with
 | false => rfl
 | true => rw [hm] at h; simp at h
theorem one_parts {K : List ByteArray} {r : Rule} {P : List ByteArray} (h : oneS K r P = []) (h1 : r.one = true) : ∃ x, K = [x] := by
 unfold oneS at h
 rw [h1] at h
 match K, h with
 | [], h => simp at h
 | [x], _ => exact ⟨x, rfl⟩
 | x :: y :: l, h => simp at h
theorem miss_parts {K : List ByteArray} {P : List ByteArray} (h : missS K P = []) : ∀ s ∈ needsOf P, s ∈ K := by
 intro s hs
 unfold missS at h
 rw [List.map_eq_nil_iff, List.filter_eq_nil_iff] at h
 have := h s hs
 rw [Bool.not_eq_true', Bool.not_eq_false] at this
 exact memB_iff.1 this
structure Fine (S : List (List ByteArray)) : Prop where
 trs : Trs S
 no : checkS S = []
theorem Fine.rule (h : Fine S) {P : List ByteArray} (hP : P ∈ S) : ∃ r, ruleOf P = some r ∧ lineS S r P = [] := all_known h.trs h.no _ P hP rfl
theorem Fine.need (h : Fine S) {a b c : ByteArray} (hP : [a, b] ∈ S) (hc : c ∈ needs2 a) : [a, b, c] ∈ S := by
 obtain ⟨r, hr, hl⟩ := h.rule hP
 obtain ⟨-, hm, -⟩ := line_parts hl
 have ht : typeB (secondB a) b = true := by
  rw [rule_2] at hr
  cases hb : typeB (secondB a) b with
  | true => rfl
  | false => rw [hb] at hr; simp at hr
 have := miss_parts hm c (by rw [needs_2, if_pos ht]; exact hc)
 have := mem_kw.1 this
 simpa using this
theorem Fine.one (h : Fine S) {a b c : ByteArray} (hP : [a, b, c] ∈ S) (h1 : (thirdB a c).2.1 = true) : ∃ x, kw S [a, b, c] = [x] := by
 obtain ⟨r, hr, hl⟩ := h.rule hP
 obtain ⟨ho, -, -⟩ := line_parts hl
 rw [rule_3] at hr
 split at hr
 · injection hr with hr
   refine one_parts ho ?_
   rw [← hr]; exact h1
 · cases hr
theorem Fine.single (h : Fine S) {a b c : ByteArray} (hP : [a, b] ∈ S) (hc : c ∈ needs2 a) (h1 : (thirdB a c).2.1 = true) : ∃ x, kw S [a, b, c] = [x] ∧ [a, b, c, x] ∈ S := by
 obtain ⟨x, hx⟩ := h.one (h.need hP hc) h1
 refine ⟨x, hx, ?_⟩
 have : x ∈ kw S [a, b, c] := by rw [hx]; simp
 have := mem_kw.1 this
 simpa using this
theorem Fine.meant (h : Fine S) {a b c d : ByteArray} (hP : [a, b, c, d] ∈ S) : meantS S [a, secondB a, c, (thirdB a c).1] [a, b, c, d] = false := by
 obtain ⟨r, hr, hl⟩ := h.rule hP
 obtain ⟨-, -, hm⟩ := line_parts hl
 rw [rule_4] at hr
 split at hr
 · injection hr with hr
   rw [← hr] at hm; exact hm
 · cases hr
theorem there_not {a b : ByteArray} (h : (!(thereS S a b)) = false) : [a, b] ∈ S := by
 unfold thereS at h
 rw [Bool.not_eq_false'] at h
 exact memB_iff.1 h
theorem g_bh1 : ¬ glueB [wBind, tIp, wHost, tName] = m1 := by decide +kernel
theorem g_bh2 : glueB [wBind, tIp, wHost, tName] = m2 ∨ glueB [wBind, tIp, wHost, tName] = m3 := by decide +kernel
theorem g_rv1 : ¬ glueB [wRoutes, tPrefix, wVia, tName] = m1 := by decide +kernel
theorem g_rv2 : glueB [wRoutes, tPrefix, wVia, tName] = m2 ∨ glueB [wRoutes, tPrefix, wVia, tName] = m3 := by decide +kernel
theorem g_hv1 : ¬ glueB [wHosts, tName, wVnis, tVni] = m1 := by decide +kernel
theorem g_hv2 : ¬ (glueB [wHosts, tName, wVnis, tVni] = m2 ∨ glueB [wHosts, tName, wVnis, tVni] = m3) := by decide +kernel
theorem g_hv3 : glueB [wHosts, tName, wVnis, tVni] = m4 := by decide +kernel
theorem Fine.own (h : Fine S) {i g : ByteArray} (hP : [wBind, i, wHost, g] ∈ S) : [wHosts, g] ∈ S := by
 have := h.meant hP
 rw [second_bind, third_bind_wHost] at this
 unfold meantS at this
 rw [if_neg g_bh1, if_pos g_bh2] at this
 exact there_not this
theorem Fine.via (h : Fine S) {p g : ByteArray} (hP : [wRoutes, p, wVia, g] ∈ S) : [wHosts, g] ∈ S := by
 have := h.meant hP
 rw [second_routes, third_routes_wVia] at this
 unfold meantS at this
 rw [if_neg g_rv1, if_pos g_rv2] at this
 exact there_not this
theorem Fine.net (h : Fine S) {a v : ByteArray} (hP : [wHosts, a, wVnis, v] ∈ S) : [wVnis, v] ∈ S := by
 have := h.meant hP
 rw [second_hosts, third_hosts_wVnis] at this
 unfold meantS at this
 rw [if_neg g_hv1, if_neg g_hv2, if_pos g_hv3] at this
 exact there_not this
theorem need_host : wHost ∈ needs2 wBind := memB_iff.1 (by decide +kernel)
theorem need_via : wVia ∈ needs2 wRoutes := memB_iff.1 (by decide +kernel)
theorem need_vni : wVni ∈ needs2 wBind := memB_iff.1 (by decide +kernel)
theorem need_ip : wIp ∈ needs2 wHosts := memB_iff.1 (by decide +kernel)
theorem one_of {P : List ByteArray} {x other : ByteArray} (h : kw S P = [x]) : oneU S other P = x := by unfold oneU; rw [h]; rfl
theorem Fine.ownIn (h : Fine S) {i : ByteArray} (hi : i ∈ kw S [wBind]) : ownU S i ∈ kw S [wHosts] := by
 have hP : [wBind, i] ∈ S := by simpa using mem_kw.1 hi
 obtain ⟨x, hx, hm⟩ := h.single (c := wHost) hP need_host (by decide +kernel)
 unfold ownU
 rw [one_of hx]
 exact mem_kw.2 (by simpa using h.own hm)
theorem Fine.viaIn (h : Fine S) {p : ByteArray} (hp : p ∈ kw S [wRoutes]) : viaU S p ∈ kw S [wHosts] := by
 have hP : [wRoutes, p] ∈ S := by simpa using mem_kw.1 hp
 obtain ⟨x, hx, hm⟩ := h.single (c := wVia) hP need_via (by decide +kernel)
 unfold viaU
 rw [one_of hx]
 exact mem_kw.2 (by simpa using h.via hm)
theorem Fine.netIn (h : Fine S) {a v : ByteArray} (hv : v ∈ kw S [wHosts, a, wVnis]) : v ∈ kw S [wVnis] := by
 have hP : [wHosts, a, wVnis, v] ∈ S := by simpa using mem_kw.1 hv
 exact mem_kw.2 (by simpa using h.net hP)
theorem mem_floods {h : ByteArray} {e : Ent} : e ∈ floodsU S h ↔ ∃ v g, v ∈ kw S [wHosts, h, wVnis] ∧ g ∈ kw S [wHosts] ∧ g ≠ h ∧ inU S g v = true ∧ e = ⟨h, 1, v, addrU S g⟩ := by
 unfold floodsU
 simp only [List.mem_flatMap, List.mem_map, List.mem_filter, Bool.and_eq_true, Bool.not_eq_true', decide_eq_false_iff_not]
 constructor
 · rintro ⟨v, hv, g, ⟨hg, h1, h2⟩, rfl⟩; exact ⟨v, g, hv, hg, h1, h2, rfl⟩
 · rintro ⟨v, g, hv, hg, h1, h2, rfl⟩; exact ⟨v, hv, g, ⟨hg, h1, h2⟩, rfl⟩
theorem bind_same {h i : ByteArray} : bindD S h (ownU S i) i = bindU S h i := by
 unfold bindD bindU
 cases hi : inU S h (vniU S i) <;> simp
theorem bind_other {h g i : ByteArray} (hg : ownU S i ≠ g) : bindD S h g i = [] := by unfold bindD; simp [hg]
theorem route_same {h p : ByteArray} : routeD S h (viaU S p) p = [routeU S h p] := by unfold routeD routeU; simp
theorem route_other {h g p : ByteArray} (hg : viaU S p ≠ g) : routeD S h g p = [] := by unfold routeD; rw [if_neg hg]
theorem all_same (hF : Fine S) (e : Ent) : e ∈ allU S ↔ e ∈ allD S := by
 unfold allU allD hostU pairsD
 simp only [List.mem_flatMap, List.mem_append]
 refine exists_congr fun h => and_congr_right fun hh => ?_
 constructor
 · rintro (((hf | hb) | hr) | hp)
   · obtain ⟨v, g, hv, hg, h1, h2, rfl⟩ := mem_floods.1 hf
     refine .inl ⟨g, hg, .inl (.inl ?_)⟩
     unfold netsD
     refine List.mem_map.2 ⟨v, List.mem_filter.2 ⟨hF.netIn hv, ?_⟩, rfl⟩
     have hv' : inU S h v = true := memB_iff.2 hv
     rw [h2, hv', decide_eq_false (fun e => h1 e.symm)]; rfl
   · unfold bindingsU at hb
     obtain ⟨i, hi, he⟩ := List.mem_flatMap.1 hb
     refine .inl ⟨ownU S i, hF.ownIn hi, .inl (.inr ?_)⟩
     unfold bindsD
     exact List.mem_flatMap.2 ⟨i, hi, by rw [bind_same]; exact he⟩
   · unfold routesU at hr
     obtain ⟨p, hp, rfl⟩ := List.mem_map.1 hr
     refine .inl ⟨viaU S p, hF.viaIn hp, .inr ?_⟩
     unfold routesD
     exact List.mem_flatMap.2 ⟨p, hp, by rw [route_same]; simp⟩
   · exact .inr hp
 · rintro (⟨g, hg, (hf | hb) | hr⟩ | hp)
   · unfold netsD at hf
     obtain ⟨v, hv, rfl⟩ := List.mem_map.1 hf
     obtain ⟨-, h2⟩ := List.mem_filter.1 hv
     simp only [Bool.and_eq_true, Bool.not_eq_true', decide_eq_false_iff_not] at h2
     exact .inl (.inl (.inl (mem_floods.2 ⟨v, g, memB_iff.1 h2.1.2, hg, fun e => h2.1.1 e.symm, h2.2, rfl⟩)))
   · unfold bindsD at hb
     obtain ⟨i, hi, he⟩ := List.mem_flatMap.1 hb
     by_cases ho : ownU S i = g
     · subst ho
       rw [bind_same] at he
       exact .inl (.inl (.inr (List.mem_flatMap.2 ⟨i, hi, he⟩)))
     · rw [bind_other ho] at he; simp at he
   · unfold routesD at hr
     obtain ⟨p, hp, he⟩ := List.mem_flatMap.1 hr
     by_cases ho : viaU S p = g
     · subst ho
       rw [route_same] at he
       refine .inl (.inr (List.mem_map.2 ⟨p, hp, ?_⟩))
       exact (List.mem_singleton.1 he).symm
     · rw [route_other ho] at he; simp at he
   · exact .inr hp
theorem set_same (hF : Fine S) : setE (allU S) = setE (allD S) := setE_same (all_same hF)
end
end Hst
