/- A walk: slices.Insert of one line, where there is no room. A walk: slices.Insert of one line, behind all; and all its roads together. A walk: lines.Add. -/
import Derived.Deep.RegionHeld3
import Derived.Test.YtjdknhalcpkeaaaGreatDoorJ25
namespace Go.Proofs.YtjdknhalcpkeaaaGreatDoor
open Go Go.RowKit Go.Sort Tre Lns
theorem zero_cells (k : Nat) : (Builtin.zeroCells (Value.agg #[.int .i64 0, .string ⟨#[]⟩, .int .i64 0]).cells k).size = k * 3 := by
 simp [Builtin.zeroCells, Value.cells]
set_option maxHeartbeats 4000000 in
set_option maxRecDepth 100000 in
theorem insert_grow (w0 w : World) (g n c i vb vc : Nat) (cur : Array Value) (T : TypeId) (L : List Line) (l : Line) (hb : Below w0.heap.size w0 w) (hh : w.heap[g]? = some (.cells cur 52 (0, 0))) (hn : L.length = n) (hn9 : n ≤ 1000000) (hi : i < n) (hnc : n ≤ c) (hroom : c < n + 1) (hsz : cur.size = c * 3) (ht : cur.toList.take (n * 3) = lines L)
 (hv : w.heap[vb]? = some (.cells #[.int .i64 l.depth, .string l.word, .int .i64 l.mark] T (0, 0))) :
 Calls Tryz.prog 47 #[.slice (some ⟨g, 0, none⟩) n c, .int .i64 i, .slice (some ⟨vb, 0, none⟩) 1 vc] w fun e w' =>
  (∃ v', e = .returned v' ∧ w'.ownsRow w0.heap.size 52 3 v' (n + 1) (lines (insB L i l))) ∧ Below w0.heap.size w0 w' := by
 obtain ⟨i0, hii, hz0, hzs, hzb⟩ := info_parts info_pl
 have hcl : (lines (L.drop i)).length = (n - i) * 3 := by rw [lines_length, List.length_drop, hn]
 have hct : (lines (L.take i)).length = i * 3 := by rw [lines_length, List.length_take, hn, Nat.min_eq_left (by omega)]
 have hcur : cur.toList.length = c * 3 := by rw [← hsz]; simp
 have hpre : cur.toList.take (i * 3) = lines (L.take i) := take_pre (by omega) (by rw [hn]; exact ht)
 have hgw : g < w.heap.size := (Array.getElem?_eq_some_iff.1 hh).1
 have hvw : vb < w.heap.size := (Array.getElem?_eq_some_iff.1 hv).1
 have hold : (Builtin.firstCells i0.size i (.slice (some ⟨g, 0, none⟩) i c)).run Tryz.prog w.drew = .ok (lines (L.take i)).toArray w.drew := by
  rw [hzs]
  exact run_firstCells_some w.drew 3 i ⟨g, 0, none⟩ i c (lines (L.take i)) hct (fun j v hj => by
   rw [add_plain, Nat.zero_add]
   show w.cell? _ = _
   rw [cell_of_row w g _ cur _ (0, 0) hh]
   rw [← hpre, List.getElem?_take] at hj
   split at hj
   · simpa using hj
   · cases hj)
 have hkk : (n : Int) + 1 - (i : Int) = ((n + 1 - i : Nat) : Int) := by omega
 have hik : i + (n + 1 - i) = n + 1 := by omega
 have hrz : ∀ ty, (Builtin.append_ #[22, 3] ty #[.slice (some ⟨g, 0, none⟩) i c, .int .i64 ((n : Int) + 1 - (i : Int))]).run Tryz.prog w =
  .ok (.slice (some ⟨w.heap.size, 0, none⟩) (n + 1) (grownCap w (n + 1) c 52)) (w.drew.alloc (.cells ((lines (L.take i)).toArray ++ Builtin.zeroCells (Value.agg #[.int .i64 0, .string ⟨#[]⟩, .int .i64 0]).cells (n + 1 - i) ++ Builtin.zeroCells (Value.agg #[.int .i64 0, .string ⟨#[]⟩, .int .i64 0]).cells (grownCap w (n + 1) c 52 - (n + 1))) 52)) := fun ty => by
  have h := Lib.run_append_grow_zeros w 22 3 ty 52 i0 _ .i64 .i64 Tryz.underlying22 Tryz.underlying3 hii hz0 (some ⟨g, 0, none⟩) i c (lines (L.take i)) hold (n + 1 - i) (by omega) (by omega) (by omega) (by omega) (by rw [hzb]; omega) (by rw [hzb, hik]; exact growslice_fits hroom (by omega))
  rw [hik] at h
  rw [hkk]
  exact h
 obtain ⟨G, hG⟩ : ∃ G, G = grownCap w (n + 1) c 52 := ⟨_, rfl⟩
 have hGn : n + 1 ≤ G := by rw [hG]; exact grownCap_ge w _ _ _
 have hGm : G ≤ maxLen := by rw [hG]; exact grownCap_le_maxLen w (n + 1) c 52 (by unfold maxLen; omega)
 rw [← hG] at hrz
 obtain ⟨ROW, hROW⟩ : ∃ ROW : Array Value, ROW = (lines (L.take i)).toArray ++ Builtin.zeroCells (Value.agg #[.int .i64 0, .string ⟨#[]⟩, .int .i64 0]).cells (n + 1 - i) ++ Builtin.zeroCells (Value.agg #[.int .i64 0, .string ⟨#[]⟩, .int .i64 0]).cells (G - (n + 1)) := ⟨_, rfl⟩
 rw [← hROW] at hrz
 have hRs : ROW.size = G * 3 := by
  rw [hROW, Array.size_append, Array.size_append, zero_cells, zero_cells, List.size_toArray, hct]; omega
 have hRl : ROW.toList.length = G * 3 := by rw [← hRs]; simp
 have hRt : ROW.toList.take (i * 3) = lines (L.take i) := by
  rw [hROW, Array.toList_append, Array.toList_append, List.append_assoc, ← hct]
  exact List.take_left
 obtain ⟨W1, hW1⟩ : ∃ W1, w.drew.alloc (.cells ROW 52) = W1 := ⟨_, rfl⟩
 rw [hW1] at hrz
 obtain ⟨N, hN⟩ : ∃ N, w.heap.size = N := ⟨_, rfl⟩
 have hh1 : W1.heap[N]? = some (.cells ROW 52 (0, 0)) := by rw [← hW1, ← hN]; exact heap_alloc_new w.drew _
 have hvb1 : W1.heap[vb]? = some (.cells #[.int .i64 l.depth, .string l.word, .int .i64 l.mark] T (0, 0)) := by
  rw [← hW1, heap_alloc_old (r := vb) w.drew _ hvw]; exact hv
 have hg1 : W1.heap[g]? = some (.cells cur 52 (0, 0)) := by
  rw [← hW1, heap_alloc_old (r := g) w.drew _ hgw]; exact hh
 obtain ⟨w2, hw2⟩ : ∃ w2, W1.setRow N (segs ROW.toList (i * 3) l.cells).toArray = w2 := ⟨_, rfl⟩
 have hl1 : (segs ROW.toList (i * 3) l.cells).length = G * 3 := by rw [segs_len (by rw [hRl]; show i * 3 + 3 ≤ _; omega), hRl]
 have hcpA : ∀ ty dc, (Builtin.copy_ #[22, 22] ty #[.slice (some ⟨N, i * 3, none⟩) (n + 1 - i) dc, .slice (some ⟨vb, 0, none⟩) 1 vc]).run Tryz.prog W1 = .ok (goInt 1) w2 := fun ty dc => by
  have := run_copy_rowK 3 W1 22 22 ty 52 N (i * 3) (n + 1 - i) dc ⟨vb, 0, none⟩ 1 vc ROW 52 l.cells Tryz.underlying22 hsz_line hh1 (by rw [show Nat.min 1 (n + 1 - i) = 1 by simp only [Nat.min_def]; split <;> omega]; rfl)
   (fun j v hj => by rw [add_plain, cell_of_row W1 vb _ _ _ (0, 0) hvb1, Nat.zero_add, List.getElem?_toArray]; exact hj) (by rw [hRs]; show i * 3 + 3 ≤ _; omega) (cells_one _)
  rw [this, show Nat.min 1 (n + 1 - i) = 1 by simp only [Nat.min_def]; split <;> omega, ← hw2]
  rfl
 have hNg : N ≠ g := by omega
 have hh2 : w2.heap[N]? = some (.cells (segs ROW.toList (i * 3) l.cells).toArray 52 (0, 0)) := by rw [← hw2]; exact setRow_heap W1 N ROW _ _ _ hh1
 have hg2 : w2.heap[g]? = some (.cells cur 52 (0, 0)) := by
  rw [← hw2, ← hg1]
  simp only [World.setRow]
  rw [Array.getElem?_modify, if_neg hNg]
 have hat : ∀ j v, (lines (L.drop i))[j]? = some v → w2.drew.cell? ((⟨g, i * 3, none⟩ : Addr).add j) = some v := fun j v hj => by
  rw [add_plain]
  show w2.cell? _ = _
  rw [cell_of_row w2 g _ cur _ (0, 0) hg2]
  have hjl : j < (n - i) * 3 := by rw [← hcl]; exact (List.getElem?_eq_some_iff.1 hj).1
  have h1 : (lines L)[i * 3 + j]? = some v := by
   rw [lines_split L i, List.getElem?_append_right (by rw [hct]; omega), hct, Nat.add_sub_cancel_left]
   exact hj
  rw [← ht, List.getElem?_take] at h1
  split at h1
  · simpa using h1
  · cases h1
 obtain ⟨w3, hw3⟩ : ∃ w3, w2.drew.setRow N (segs (segs ROW.toList (i * 3) l.cells) ((i + 1) * 3) (lines (L.drop i))).toArray = w3 := ⟨_, rfl⟩
 have hcpB : ∀ ty dc sc, (Builtin.copy_ #[22, 22] ty #[.slice (some ⟨N, (i + 1) * 3, none⟩) (n - i) dc, .slice (some ⟨g, i * 3, none⟩) (n - i) sc]).run Tryz.prog w2.drew = .ok (goInt ((n - i : Nat) : Int)) w3 := fun ty dc sc => by
  have := run_copy_rowK 3 w2.drew 22 22 ty 52 N ((i + 1) * 3) (n - i) dc ⟨g, i * 3, none⟩ (n - i) sc (segs ROW.toList (i * 3) l.cells).toArray 52 (lines (L.drop i)) Tryz.underlying22 hsz_line hh2 (by rw [hcl]; congr 1; simp) hat (by rw [hcl, List.size_toArray, hl1]; omega) (lines_c _)
  rw [this, show Nat.min (n - i) (n - i) = n - i by simp, ← hw3]
  rfl
 have hB1 : Below w0.heap.size w0 W1 := by rw [← hW1]; exact hb.drew.alloc hb.drew.size _
 have hN0 : w0.heap.size ≤ N := by rw [← hN]; exact hb.size
 have hB : Hid (Below w0.heap.size w0 w3) := by
  show Below _ _ _
  rw [← hw3]
  refine setRow_below (Below.drew ?_) hN0 _
  rw [← hw2]
  exact setRow_below hB1 hN0 _
 have hO : Hid (w3.ownsRow w0.heap.size 52 3 (.slice (some ⟨N, 0, none⟩) (n + 1) G) (n + 1) (lines (insB L i l))) := by
  refine ⟨by rw [lines_length, insB_len, hn], .inr ⟨N, G, (segs (segs ROW.toList (i * 3) l.cells) ((i + 1) * 3) (lines (L.drop i))).toArray, rfl, hN0, ?_, hGn, hGm, ?_, ?_⟩⟩
  · rw [← hw3]; exact setRow_heap w2.drew N _ _ _ _ hh2
  · rw [List.size_toArray, segs_len (by rw [hl1, hcl]; omega), hl1]
  · show (segs _ _ _).take _ = _
    rw [← hn]
    exact segs_fresh L l i (by omega) ROW.toList hRt
 rw [hN] at hrz
 have hz2 : ¬ ((i : Int) = (n : Int)) := by omega
 have hw1' : IntKind.i64.wrap ((i : Int) + 1) = (i : Int) + 1 := by rw [IntKind.wrap_i64]; omega
 have hz3 : (c : Int) < (n : Int) + 1 := by omega
 have hb1 : (0 : Int) ≤ (i : Int) + 1 := by omega
 have hin : i ≤ n := by omega
 have hG63 : G ≤ 9223372036854775807 := by unfold maxLen at hGm; omega
 have hGi : ¬ (G = i) := by omega
 have hGim : ¬ (G = i + 1) := by omega
 have hci : ¬ (c = i) := by omega
 have hb3 : (i : Int) ≤ (n : Int) := by omega
 clear hkk hik hold hROW hG hRl hRs hRt hW1 hN hh1 hvb1 hg1 hw2 hl1 hh2 hg2 hat hw3 hB1 hN0 hcl hct hcur hpre hgw hvw ht hh hv hb hsz
 have mixed : Tryz.prog.follows .mixedOrders = true := by kernel_rfl
 go_enter Tryz.func47, Tryz.ntmps47
 go_wp2_with (first | (at_builtin; refine Lib.wpList_append_run _ rfl _ _ _ _ rfl _ _ rfl rfl _ _ (hrz _) ?_) | (at_builtin; refine wpList_copy_runI _ rfl _ _ 22 22 rfl _ _ rfl rfl (hcpA _ _) ?_))
 go_region_law_o (refine step_copy_runI rfl _ _ 22 22 rfl _ _ (by simp [Act.eval, Act.put]) (by simp [Act.eval, Act.put]) (hcpB _ _ _) ?_)
 go_wp2
 go_ret
 exact ⟨⟨_, rfl, hO.out⟩, hB.out⟩
end Go.Proofs.YtjdknhalcpkeaaaGreatDoor
namespace Go.Proofs.YtjdknhalcpkeaaaGreatDoor
open Go Go.RowKit Go.Sort Tre Lns
theorem ins_last (L : List Line) (l : Line) : lines (insB L L.length l) = lines L ++ l.cells := by
 rw [lines_ins, List.take_length, List.drop_length]
 show lines L ++ l.cells ++ [] = _
 rw [List.append_nil]
set_option maxHeartbeats 4000000 in
set_option maxRecDepth 100000 in
theorem insert_end (w0 w : World) (v : Value) (n vb vc : Nat) (T : TypeId) (L : List Line) (l : Line) (hb : Below w0.heap.size w0 w) (hown : w.ownsRow w0.heap.size 52 3 v n (lines L)) (hn : L.length = n) (hn9 : n ≤ 1000000)
 (hv : w.heap[vb]? = some (.cells #[.int .i64 l.depth, .string l.word, .int .i64 l.mark] T (0, 0))) :
 Calls Tryz.prog 47 #[v, .int .i64 n, .slice (some ⟨vb, 0, none⟩) 1 vc] w fun e w' =>
  (∃ v', e = .returned v' ∧ w'.ownsRow w0.heap.size 52 3 v' (n + 1) (lines (insB L n l))) ∧ Below w0.heap.size w0 w' := by
 obtain ⟨i0, hii, hz0, hz1, hz2⟩ := info_parts info_pl
 have HO := Lib.hid hown
 have HB := Lib.hid hb
 have HV : Hid (∀ j u, l.cells[j]? = some u → w.cell? ((⟨vb, 0, none⟩ : Addr).add j) = some u) := fun j u hj => by
  rw [add_plain, cell_of_row w vb _ _ _ (0, 0) hv, Nat.zero_add, List.getElem?_toArray]; exact hj
 have HIL : Hid (lines (insB L n l) = lines L ++ l.cells) := by show _ = _; rw [← hn]; exact ins_last L l
 have hN : (n + 1) * 32 ≤ 140737488355328 := by omega
 have hM : n + 1 ≤ maxLen := by unfold maxLen; omega
 have HF := hown.2
 have HLT : Hid (∀ q, v.ownBlock = some q → w0.heap.size ≤ q) := fun q hq => (hown.lt q hq).1
 clear hown hb hv hn
 rcases HF with ⟨rfl, rfl⟩ | ⟨g, c, cur, rfl, -, -, hnc, hcm, -, -⟩
 · go_enter Tryz.func47, Tryz.ntmps47
   go_wp2_with (at_builtin; refine wpList_append_own _ rfl _ _ 22 rfl w0.heap.size 52 i0 _ 3 32 Tryz.underlying22 hii hz0 hz1 hz2 rfl (by decide) _ 0 (lines L) rfl HO.out ⟨vb, 0, none⟩ 1 vc l.cells rfl rfl HV.out (cells_one _) hM hN HB.out.size ?_; intro v' w' hown' hg _)
   go_ret
   exact ⟨⟨_, rfl, by rw [HIL.out]; exact hown'⟩, HB.out.grown hg HB.out.size fun q hq => HLT.out q hq⟩
 · have hc63 : c ≤ 9223372036854775807 := by unfold maxLen at hcm; omega
   go_enter Tryz.func47, Tryz.ntmps47
   go_wp2_with (at_builtin; refine wpList_append_own _ rfl _ _ 22 rfl w0.heap.size 52 i0 _ 3 32 Tryz.underlying22 hii hz0 hz1 hz2 rfl (by decide) _ n (lines L) rfl HO.out ⟨vb, 0, none⟩ 1 vc l.cells rfl rfl HV.out (cells_one _) hM hN HB.out.size ?_; intro v' w' hown' hg _)
   all_goals
    go_ret
    exact ⟨⟨_, rfl, by rw [HIL.out]; exact hown'⟩, HB.out.grown hg HB.out.size fun q hq => HLT.out q hq⟩
theorem insert_any (w0 w : World) (v : Value) (i vb vc : Nat) (T : TypeId) (L : List Line) (l : Line) (hb : Below w0.heap.size w0 w) (hown : w.ownsRow w0.heap.size 52 3 v L.length (lines L)) (hi : i ≤ L.length) (hn9 : L.length ≤ 1000000)
 (hv : w.heap[vb]? = some (.cells #[.int .i64 l.depth, .string l.word, .int .i64 l.mark] T (0, 0))) (hne : v.ownBlock ≠ some vb) :
 Calls Tryz.prog 47 #[v, .int .i64 i, .slice (some ⟨vb, 0, none⟩) 1 vc] w fun e w' =>
  (∃ v', e = .returned v' ∧ w'.ownsRow w0.heap.size 52 3 v' (insB L i l).length (lines (insB L i l))) ∧ Below w0.heap.size w0 w' := by
 rw [insB_len]
 by_cases hie : i = L.length
 · subst hie
   exact insert_end w0 w v _ vb vc T L l hb hown rfl hn9 hv
 · rcases hown.2 with ⟨rfl, h0⟩ | ⟨g, c, cur, rfl, hg, hh, hnc, hcm, hsz, ht⟩
   · omega
   · have hne2 : vb ≠ g := fun e => hne (by rw [e]; rfl)
     by_cases hr : L.length + 1 ≤ c
     · exact insert_room w0 w g _ c i vb vc cur T L l hb hg hh rfl (by omega) hr hcm hsz ht hv hne2
     · exact insert_grow w0 w g _ c i vb vc cur T L l hb hh rfl hn9 (by omega) hnc (by omega) hsz ht hv
end Go.Proofs.YtjdknhalcpkeaaaGreatDoor
namespace Lns
open Go Go.Lib Adr Mtr Tre Sch
theorem addGo_yes {P : List ByteArray} {f d : Nat} {out : List Line} (h : (findB out (P.take (d + 1))).isSome = true) : addGo P (f + 1) d out = addGo P f (d + 1) out := by
 unfold addGo
 rw [if_pos h]
 cases f <;> rfl
theorem addGo_full {P : List ByteArray} {f d : Nat} {out : List Line} (h : (findB out (P.take (d + 1))).isSome = false) (hl : 200 ≤ out.length) : addGo P (f + 1) d out = none := by
 unfold addGo
 rw [if_neg (by rw [h]; simp), if_pos hl]
theorem addGo_ins {P : List ByteArray} {f d : Nat} {out : List Line} (h : (findB out (P.take (d + 1))).isSome = false) (hl : ¬ 200 ≤ out.length) : addGo P (f + 1) d out = addGo P f (d + 1) (insB out (spotB out (P.take d) (wAt P d)) ⟨d, wAt P d, 0⟩) := by
 conv => lhs; unfold addGo
 rw [if_neg (by rw [h]; simp), if_neg hl]
end Lns
namespace Go.Proofs.YtjdknhalcpkeaaaGreatDoor
open Go Go.RowKit Go.Sort Tre Sch Lns
def LinesEnd (w : World) (M : List Line) (e : Ending) (w' : World) : Prop :=
 (∃ v, e = .returned v ∧ w'.ownsRow w.heap.size 52 3 v M.length (lines M)) ∧ Below w.heap.size w w'
set_option maxHeartbeats 1000000 in
set_option maxRecDepth 100000 in
theorem cloneL_any (A : Option Addr) (c : Nat) (M : List Line) (w : World) (hR : Rd w 3 A M.length (lines M)) (hnil : A = none → c = 0) (hb : M.length ≤ 1000000) :
 Calls Tryz.prog 48 #[.slice A M.length c] w (LinesEnd w M) := by
 obtain ⟨i0, hii, hz0, hz1, hz2⟩ := info_parts info_pl
 cases A with
 | none =>
   have h0 : M.length = 0 := by
    rcases Nat.eq_zero_or_pos M.length with h | h
    · exact h
    · obtain ⟨ad, e, -⟩ := hR.2 h; cases e
   obtain rfl := List.eq_nil_of_length_eq_zero h0
   obtain rfl := hnil rfl
   have heq := fun wx : World => Lib.run_eql_slice_nil (P := Tryz.prog) wx 22 52 none 0 0 0 0 Tryz.underlying22
   go_enter Tryz.func48, Tryz.ntmps48
   go_wp2
   go_ret
   exact ⟨⟨_, rfl, World.ownsRow_nil _ _ _ _⟩, Below.refl _ _⟩
 | some ad =>
   obtain ⟨wo, hwo⟩ : ∃ wo, w.alloc (.cells #[] 52) = wo := ⟨_, rfl⟩
   have hbo : Below w.heap.size w wo := by rw [← hwo]; exact (Below.refl _ _).alloc (Nat.le_refl _) _
   have hown : wo.ownsRow w.heap.size 52 3 (.slice (some ⟨w.heap.size, 0, none⟩) 0 0) 0 [] := by
    rw [← hwo]
    have := World.ownsRow_lit (e := 52) (size := 3) (base := w.heap.size) w #[] 0 (Nat.le_refl _) (by unfold maxLen; omega) rfl
    simpa using this
   have HR := Lib.hid (hR.below hbo)
   have HO := Lib.hid hown
   have HBo := Lib.hid hbo
   have heq := fun wx : World => Lib.run_eql_slice_nil (P := Tryz.prog) wx 22 52 (some ad) M.length c 0 0 Tryz.underlying22
   have HN : Hid (0 + M.length ≤ 1000000000) := by show _ ≤ _; omega
   clear hR hown hbo
   go_enter Tryz.func48, Tryz.ntmps48
   go_wp2_with (at_builtin; (refine app_src rfl _ _ 22 rfl w wo 52 i0 _ 3 32 Tryz.underlying22 hii hz0 hz1 hz2 rfl (by decide) (by decide) HO.out HBo.out rfl (some ad) M.length c (lines M) rfl HR.out (fun h => by cases h) (lines_c _) HN.out ?_; intro v1 w3 hown1 hb3))
   have HO3 : Hid (w3.ownsRow w.heap.size 52 3 v1 M.length (lines M)) := by show World.ownsRow _ _ _ _ _ _ _; simpa using hown1
   clear hown1
   go_wp2_with fail
   go_ret
   exact ⟨⟨_, rfl, HO3.out⟩, hb3⟩
theorem rd_takeS {w : World} {A : Option Addr} {P : List ByteArray} (h : Rd w 1 A P.length (sv P)) {n : Nat} (hn : n ≤ P.length) : Rd w 1 A n (sv (P.take n)) := by
 refine ⟨by rw [sv_len, List.length_take]; omega, fun h0 => ?_⟩
 obtain ⟨ad, e, hb, hx⟩ := h.2 (by omega)
 refine ⟨ad, e, hb, fun j u hu => hx j u ?_⟩
 unfold sv at hu ⊢
 rw [List.map_take, List.getElem?_take] at hu
 split at hu
 · exact hu
 · cases hu
def AddEnd (L : List Line) (P : List ByteArray) (w : World) (e : Ending) (w' : World) : Prop :=
 ∃ A c, e = .returned (.tuple #[.slice A (addB L P).1.length c, .int .i64 (addB L P).2]) ∧ (addB L P).1.length ≤ c ∧ c ≤ maxLen ∧ Rd w' 3 A (addB L P).1.length (lines (addB L P).1) ∧ (A = none → c = 0) ∧ Below w.heap.size w w'
def Lr (w : World) (v : Value) (M : List Line) : Prop := ∃ A c, v = .slice A M.length c ∧ M.length ≤ c ∧ c ≤ maxLen ∧ Rd w 3 A M.length (lines M) ∧ (A = none → c = 0)
theorem Lr.below {w w' : World} {v : Value} {M : List Line} (h : Lr w v M) (hb : Below w.heap.size w w') : Lr w' v M := by
 obtain ⟨A, c, h1, h2, h3, h4, h5⟩ := h
 exact ⟨A, c, h1, h2, h3, h4.below hb, h5⟩
theorem Lr.own {w : World} {base : Nat} {v : Value} {M : List Line} (h : w.ownsRow base 52 3 v M.length (lines M)) : Lr w v M := by
 obtain ⟨A, c, h1, h2, h3, h4, h5, -⟩ := own_rd_nil h
 exact ⟨A, c, h1, h2, h3, h4, h5⟩
set_option maxHeartbeats 4000000 in
set_option maxRecDepth 100000 in
theorem add_yes (A : Option Addr) (cap : Nat) (L : List Line) (Ap : Option Addr) (cp : Nat) (P : List ByteArray) (w : World) (hR : Rd w 3 A L.length (lines L)) (hcap : L.length ≤ cap) (hc : cap ≤ maxLen) (hnil : A = none → cap = 0) (hr : rightB L = true) (hP : Rd w 1 Ap P.length (sv P)) (hcp : P.length ≤ cp) (hc2 : cp ≤ maxLen) (hs : soundP P = true) (h16 : P.length ≤ 16) :
 Calls Tryz.prog 21 #[.slice A L.length cap, .slice Ap P.length cp] w (AddEnd L P w) := by
 have HRi := right_lines A cap L w hR hcap hc
 rw [hr] at HRi
 have HRg := Lib.hid HRi
 have HSo : Hid (∀ W, Below w.heap.size w W → Calls Tryz.prog 45 #[.slice Ap P.length cp] W fun e w' => e = .returned (.bool true) ∧ w' = W) := fun W hb => by
  have := sound_path Ap cp P W (hP.below hb) (by omega)
  rwa [hs] at this
 have hc63 : cp ≤ 9223372036854775807 := by unfold maxLen at hc2; omega
 have HL0 : Hid (Lr w (.slice A L.length cap) L) := ⟨A, cap, rfl, hcap, hc, hR, hnil⟩
 have HP := Lib.hid hP
 have h200 := right_len hr
 have HX : Hid (addB L P = match addGo P P.length 0 L with | some M => (M, 0) | none => (L, 5)) := by
  show _ = _
  unfold addB
  rw [if_neg (by rw [hr, hs]; simp), if_neg (by omega)]
  cases addGo P P.length 0 L <;> rfl
 have HRR := Lib.hid hr
 have HSS := Lib.hid hs
 clear HRi hR hP hr hs
 go_enter Tryz.func21, Tryz.ntmps21
 go_wp2_with fail
 refine HRg.out.mono ?_
 rintro e w1 ⟨rfl, hb1⟩
 have HB1 := Lib.hid hb1
 clear hb1 HRg
 go_wp2_with fail
 refine (HSo.out w1 HB1.out).mono ?_
 rintro e w2 ⟨rfl, rfl⟩
 clear HSo
 go_wp2_with fail
 go_loopw [6, 29] (fun v vi wr => ∃ (d : Nat) (M : List Line), d ≤ P.length ∧ vi = .int .i64 d ∧ Hid (Lr wr v M) ∧ Hid (rightB M = true) ∧ Hid (d = 0 ∨ P.take d ∈ paths M) ∧ Hid (addGo P P.length 0 L = addGo P (P.length - d) d M) ∧ Hid (Below w.heap.size w wr)) (fun _ vi _ => P.length - (intOf vi).toNat)
 case atStart => exact ⟨0, L, Nat.zero_le _, rfl, HL0.out.below HB1.out, HRR.out, .inl rfl, rfl, HB1.out⟩
 case round =>
  obtain ⟨d, M, hd, rfl, HM, HMr, HU, HQ, HB⟩ := hrel
  obtain ⟨Am, cm, rfl, hcm1, hcm2, hrdm, hnilm⟩ := HM.out
  have HRm := Lib.hid hrdm
  have HNm := Lib.hid hnilm
  have hm200 := right_len HMr.out
  clear hrdm hnilm
  by_cases hlt : d < P.length
  · obtain ⟨B, O, rfl, hab, hadd, hx⟩ := (HP.out.below HB.out).strAt hlt
    have hw40 := wAt_size HSS.out hlt
    have hwa : P[d] = wAt P d := by unfold wAt; rw [List.getD_eq_getElem?_getD, List.getElem?_eq_getElem hlt]; rfl
    rw [hwa] at hx
    obtain ⟨f, hf⟩ : ∃ f, P.length - d = f + 1 := ⟨P.length - d - 1, by omega⟩
    have hf2 : f = P.length - (d + 1) := by omega
    have hq := HQ.out
    rw [hf] at hq
    have HFi := Lib.hid (fun W (hb : Below wr.heap.size wr W) => find_lines Am cm M (some ⟨B, O, none⟩) cp (P.take (d + 1)) W (HRm.out.below hb) hcm1 hcm2 HMr.out (by
     have := rd_takeS ((HP.out.below HB.out).below hb) (n := d + 1) (by omega)
     rw [List.length_take, Nat.min_eq_left (by omega)]; exact this) (by rw [List.length_take]; omega) hc2)
    have hl1 : (P.take (d + 1)).length = d + 1 := by rw [List.length_take]; omega
    rw [hl1] at HFi
    have hdp : (d : Int) + 1 ≤ (P.length : Int) := by omega
    have hd0 : (0 : Int) ≤ (d : Int) + 1 := by omega
    have hdc : d + 1 ≤ cp := by omega
    have hdw : IntKind.i64.wrap ((d : Int) + 1) = (d : Int) + 1 := by rw [IntKind.wrap_i64]; omega
    have hdt : ((d : Int) + 1).toNat = d + 1 := by omega
    cases hfi : findB M (P.take (d + 1)) with
    | some k =>
      have HQ2 : Hid (addGo P P.length 0 L = addGo P (P.length - (d + 1)) (d + 1) M) := by
       show _ = _
       rw [hq, addGo_yes (by rw [hfi]; rfl), hf2]
      have HU2 : Hid (d + 1 = 0 ∨ P.take (d + 1) ∈ paths M) := .inr ((find_mem HMr.out).1 (by rw [hfi]; rfl))
      rw [hfi] at HFi
      have HFr := Lib.hid (HFi.out wr (Below.refl _ _))
      clear HFi hq hfi HQ HU
      go_wp2_with (go_at_call 46; refine HFr.out.mono ?_; rintro e w3 ⟨rfl, hb3⟩; have HB3 := Lib.hid (below_step HB.out hb3); have HM3 := Lib.hid (HM.out.below hb3); clear hb3 hx)
      go_roundw
      case rel => exact ⟨d + 1, M, by omega, by go_num, HM3, HMr, HU2, HQ2, HB3⟩
      case measure => simp [intOf]; omega
    | none =>
      rw [hfi] at HFi
      have HFr := Lib.hid (HFi.out wr (Below.refl _ _))
      by_cases hful : 200 ≤ M.length
      · have HQ2 : Hid (addB L P = (L, 5)) := by
         show _ = _
         rw [HX.out, hq, addGo_full (by rw [hfi]; rfl) hful]
        clear HFi hq hfi HQ HU
        go_wp2_with (go_at_call 46; refine HFr.out.mono ?_; rintro e w3 ⟨rfl, hb3⟩; have HB3 := Lib.hid (below_step HB.out hb3); clear hb3 hx)
        refine bodyPost_ret (results_tmp2 rfl _ _ _) rfl ?_
        unfold AddEnd
        rw [HQ2.out]
        obtain ⟨A0, c0, e0, g1, g2, g3, g4⟩ := HL0.out.below HB3.out
        injection e0 with e1 e2 e3
        subst e1; subst e3
        exact ⟨_, _, rfl, g1, g2, g3, g4, HB3.out⟩
      · obtain ⟨s1, s2, s3⟩ := add_step HSS.out h16 HMr.out hlt HU.out hfi (by omega)
        have HQ2 : Hid (addGo P P.length 0 L = addGo P (P.length - (d + 1)) (d + 1) (insB M (spotB M (P.take d) (wAt P d)) ⟨d, wAt P d, 0⟩)) := by
         show _ = _
         rw [hq, addGo_ins (by rw [hfi]; rfl) hful, hf2]
        have HR2 := Lib.hid s1
        have HU2 : Hid (d + 1 = 0 ∨ P.take (d + 1) ∈ paths (insB M (spotB M (P.take d) (wAt P d)) ⟨d, wAt P d, 0⟩)) := .inr ((s3 _).2 (.inl rfl))
        clear HFi hq hfi HQ HU s1 s3
        have hful2 : ¬ (200 : Int) ≤ (M.length : Int) := by omega
        go_wp2_with (go_at_call 46; refine HFr.out.mono ?_; rintro e w3 ⟨rfl, hb3⟩; have HB3 := Lib.hid (below_step HB.out hb3); have HM3 := Lib.hid (HRm.out.below hb3); clear hb3 hx)
        have hks := s2
        generalize hkk : spotB M (P.take d) (wAt P d) = k at *
        have HCl : Hid (∀ W, Below w3.heap.size w3 W → Calls Tryz.prog 48 #[.slice Am M.length cm] W (LinesEnd W M)) := fun W hb => cloneL_any Am cm M W (HM3.out.below hb) HNm.out (by omega)
        have HSp : Hid (∀ W, Below w3.heap.size w3 W → Calls Tryz.prog 49 #[.slice Am M.length cm, .slice (some ⟨B, O, none⟩) d cp, .string (wAt P d)] W fun e w' => e = .returned (.int .i64 (k : Nat)) ∧ Below W.heap.size W w') := fun W hb => by
         have := spot_any Am cm M (some ⟨B, O, none⟩) cp (P.take d) (wAt P d) W (HM3.out.below hb) hcm1 hcm2 HMr.out (by
          have := rd_takeS ((HP.out.below HB3.out).below hb) (n := d) (by omega)
          rw [List.length_take, Nat.min_eq_left (by omega)]; exact this) (by rw [List.length_take]; omega) hc2
         rw [hkk, List.length_take, Nat.min_eq_left (by omega)] at this
         exact this
        have HKK := Lib.hid hkk
        have hdi0 : (0 : Int) ≤ (d : Int) := by omega
        have hdi1 : (d : Int) ≤ (cp : Int) := by omega
        have hdi2 : d ≤ cp := by omega
        clear hkk s2
        go_region_held3 (fun _ => True) (trivial) (first | (go_at_call 48; refine (HCl.out _ ?hbw).mono ?_; (case hbw => repeat (first | with_reducible exact Below.refl _ _ | exact Nat.le_refl _ | (simp; done) | with_reducible refine Below.drew ?_ | with_reducible refine Below.alloc ?_ ?_ _)); unfold LinesEnd; rintro e w4 ⟨⟨v4, rfl, hv4⟩, hb4⟩; have HO4 := Lib.hid hv4; have HL4 := Lib.hid hb4; have HB34 : Hid (Below w3.heap.size w3 w4) := below_step (by repeat (first | with_reducible exact Below.refl _ _ | exact Nat.le_refl _ | (simp; done) | with_reducible refine Below.drew ?_ | with_reducible refine Below.alloc ?_ ?_ _)) hb4; clear hb4 hv4) | (go_at_call 49; refine (HSp.out _ ?hbw).mono ?_; (case hbw => repeat (first | with_reducible exact HB34.out | exact Nat.le_trans HB34.out.size (by simp) | with_reducible refine Below.alloc ?_ ?_ _)); rintro e w5 ⟨rfl, hb5⟩; have HL5 := Lib.hid hb5; clear hb5) | (go_at_call_of 47 (Value.slice (some ⟨w5.heap.size, 0, none⟩) 1 1); refine (insert_any _ _ v4 k w5.heap.size 1 52 M ⟨d, wAt P d, 0⟩ ((HL4.out.trans (HL5.out.mono HL4.out.size)).alloc (Nat.le_trans HL4.out.size HL5.out.size) _) ((own_below HO4.out HL5.out).alloc _) hks (by omega) (heap_alloc_new w5 _) (fun h => absurd ((own_below HO4.out HL5.out).lt _ h).2 (Nat.lt_irrefl _))).mono ?_; rintro e w6 ⟨⟨v6, rfl, hv6⟩, hb6⟩; have HM6 := Lib.hid (Lr.own hv6); have HB36 : Hid (Below w3.heap.size w3 w6) := below_step (by repeat (first | with_reducible exact Below.refl _ _ | exact Nat.le_refl _ | (simp; done) | with_reducible refine Below.drew ?_ | with_reducible refine Below.alloc ?_ ?_ _)) hb6; clear hb6 hv6) | (go_at_call_of 47 (Value.slice (some ⟨w4.heap.size, 0, none⟩) 1 1); refine (insert_any _ _ v4 k w4.heap.size 1 52 M ⟨d, wAt P d, 0⟩ ((HL4.out.alloc HL4.out.size _).trans (HL5.out.mono (Nat.le_trans HL4.out.size (by simp)))) (own_below (HO4.out.alloc _) HL5.out) hks (by omega) ((HL5.out.block _ (by simp)).trans (heap_alloc_new w4 _)) (fun h => absurd (HO4.out.lt _ h).2 (Nat.lt_irrefl _))).mono ?_; rintro e w6 ⟨⟨v6, rfl, hv6⟩, hb6⟩; have HM6 := Lib.hid (Lr.own hv6); have HB36 : Hid (Below w3.heap.size w3 w6) := below_step (by repeat (first | with_reducible exact Below.refl _ _ | exact Nat.le_refl _ | (simp; done) | with_reducible refine Below.drew ?_ | with_reducible refine Below.alloc ?_ ?_ _)) hb6; clear hb6 hv6) | (go_at_call_of 47 (Value.slice (some ⟨w3.heap.size, 0, none⟩) 1 1); refine (insert_any _ _ v4 k w3.heap.size 1 52 M ⟨d, wAt P d, 0⟩ (HL4.out.trans (HL5.out.mono HL4.out.size)) (own_below HO4.out HL5.out) hks (by omega) ((HL5.out.block _ (Nat.lt_of_lt_of_le (by simp) HL4.out.size)).trans ((HL4.out.block _ (by simp)).trans (heap_alloc_new w3 _))) (fun h => absurd (HO4.out.lt _ h).1 (by simp))).mono ?_; rintro e w6 ⟨⟨v6, rfl, hv6⟩, hb6⟩; have HM6 := Lib.hid (Lr.own hv6); have HB36 : Hid (Below w3.heap.size w3 w6) := below_step (by repeat (first | with_reducible exact Below.refl _ _ | exact Nat.le_refl _ | (simp; done) | with_reducible refine Below.drew ?_ | with_reducible refine Below.alloc ?_ ?_ _)) hb6; clear hb6 hv6))
        all_goals
         have HB6 := Lib.hid (below_step HB3.out HB36.out)
         clear HO4 HL4 HB34 HL5 HB36 HCl HSp
         go_wp2
         go_roundw
         case rel => exact ⟨d + 1, _, by omega, by go_num, HM6, HR2, HU2, HQ2, HB6⟩
         case measure => simp [intOf]; omega
  · have hde : d = P.length := by omega
    have HQ2 : Hid (addB L P = (M, 0)) := by
     show _ = _
     rw [HX.out, HQ.out, hde, Nat.sub_self]
     rfl
    have HClo := Lib.hid (cloneL_any Am cm M wr HRm.out HNm.out (by omega))
    clear HQ HU
    go_wp2_with (go_at_call 48; refine HClo.out.mono ?_; unfold LinesEnd; rintro e w4 ⟨⟨v4, rfl, hv4⟩, hb4⟩; have HM4 := Lib.hid (Lr.own hv4); have HB4 := Lib.hid (below_step HB.out hb4); clear hb4 hv4)
    refine bodyPost_ret (results_tmp2 rfl _ _ _) rfl ?_
    unfold AddEnd
    rw [HQ2.out]
    obtain ⟨A0, c0, e0, g1, g2, g3, g4⟩ := HM4.out
    exact ⟨A0, c0, by rw [← e0]; rfl, g1, g2, g3, g4, HB4.out⟩
end Go.Proofs.YtjdknhalcpkeaaaGreatDoor
