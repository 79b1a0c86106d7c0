/- Walks: slices.Grow, slices.Concat of entries. A laying of the library's own functions at this seat's dump, laid by the kit's own lay-plain.mjs. Walks: slices.Clone and slices.SortFunc of entries; an entry of a row laid anew. Walks: the reference's Same, Ahead. -/
import Derived.Lib.AppendZerosOnto
import Derived.Lib.Walk
import Derived.Shelf.SlSortCmp.NoneTotal
import Derived.Ground.SlsfProg
import Derived.Test.YtjdknhalcpkeaaaGreatDoorProg
import Derived.BigQuiet
import Derived.Test.YtjdknhalcpkeaaaGreatDoorJ31
import Derived.Test.YtjdknhalcpkeaaaGreatDoorJ30
namespace Go.Proofs.YtjdknhalcpkeaaaGreatDoor
open Go Go.RowKit Go.Sort Rte Sch Tre Hst
theorem zero_ents (k : Nat) : (Builtin.zeroCells (Value.agg #[.string ⟨#[]⟩, .int .i64 0, .string ⟨#[]⟩, .string ⟨#[]⟩]).cells k).size = k * 4 := by
 simp [Builtin.zeroCells, Value.cells]
set_option maxHeartbeats 1000000 in
set_option maxRecDepth 100000 in
theorem grow_any (n : Nat) (w : World) (hn : n ≤ 1000000) : Calls Tryz.prog 62 #[.slice none 0 0, .int .i64 n] w fun e w' => (∃ v, e = .returned v ∧ w'.ownsRow w.heap.size 35 4 v 0 (ents [])) ∧ Below w.heap.size w w' := by
 obtain ⟨i0, hii, hz0, hzs, hzb⟩ := info_parts info_ent
 by_cases h0 : n = 0
 · subst h0
   go_enter Tryz.func62, Tryz.ntmps62
   go_wp2
   go_ret
   exact ⟨⟨_, rfl, World.ownsRow_nil _ _ _ _⟩, Below.refl _ _⟩
 · have hold : (Builtin.firstCells i0.size 0 (.slice none 0 0)).run Tryz.prog w.drew = .ok #[] w.drew := run_firstCells_none w.drew i0.size 0 0 0
   have hrz : ∀ ty, (Builtin.append_ #[25, 3] ty #[.slice none 0 0, .int .i64 n]).run Tryz.prog w =
    .ok (.slice (some ⟨w.heap.size, 0, none⟩) n (grownCap w n 0 35)) (w.drew.alloc (.cells (#[] ++ Builtin.zeroCells (Value.agg #[.string ⟨#[]⟩, .int .i64 0, .string ⟨#[]⟩, .string ⟨#[]⟩]).cells n ++ Builtin.zeroCells (Value.agg #[.string ⟨#[]⟩, .int .i64 0, .string ⟨#[]⟩, .string ⟨#[]⟩]).cells (grownCap w n 0 35 - n)) 35)) := fun ty => by
    have h := Lib.run_append_grow_zeros w 25 3 ty 35 i0 _ .i64 .i64 Tryz.underlying25 Tryz.underlying3 hii hz0 none 0 0 [] hold n (by omega) (by omega) (by omega) (by omega) (by rw [hzb]; omega) (by rw [hzb, Nat.zero_add]; exact growslice_fits (by omega) (by omega))
    rw [Nat.zero_add] at h
    exact h
   obtain ⟨G, hG⟩ : ∃ G, G = grownCap w n 0 35 := ⟨_, rfl⟩
   have hGn : n ≤ G := by rw [hG]; exact grownCap_ge w _ _ _
   have hGm : G ≤ maxLen := by rw [hG]; exact grownCap_le_maxLen w n 0 35 (by unfold maxLen; omega)
   rw [← hG] at hrz
   obtain ⟨ROW, hROW⟩ : ∃ ROW : Array Value, ROW = #[] ++ Builtin.zeroCells (Value.agg #[.string ⟨#[]⟩, .int .i64 0, .string ⟨#[]⟩, .string ⟨#[]⟩]).cells n ++ Builtin.zeroCells (Value.agg #[.string ⟨#[]⟩, .int .i64 0, .string ⟨#[]⟩, .string ⟨#[]⟩]).cells (G - n) := ⟨_, rfl⟩
   rw [← hROW] at hrz
   have hRs : ROW.size = G * 4 := by
    rw [hROW, Array.size_append, Array.size_append, zero_ents, zero_ents]
    simp; omega
   obtain ⟨W1, hW1⟩ : ∃ W1, w.drew.alloc (.cells ROW 35) = W1 := ⟨_, rfl⟩
   rw [hW1] at hrz
   obtain ⟨N, hN⟩ : ∃ N, w.heap.size = N := ⟨_, rfl⟩
   have hh1 : W1.heap[N]? = some (.cells ROW 35 (0, 0)) := by rw [← hW1, ← hN]; exact heap_alloc_new w.drew _
   have hB : Hid (Below w.heap.size w W1) := by show Below _ _ _; rw [← hW1]; exact (Below.refl _ _).drew.alloc (Nat.le_refl _) _
   have hO : Hid (W1.ownsRow w.heap.size 35 4 (.slice (some ⟨N, 0, none⟩) 0 G) 0 (ents [])) := ⟨rfl, .inr ⟨N, G, ROW, rfl, by rw [hN]; exact Nat.le_refl _, hh1, Nat.zero_le _, hGm, hRs, rfl⟩⟩
   rw [hN] at hrz
   have hG63 : G ≤ 9223372036854775807 := by unfold maxLen at hGm; omega
   have hn0 : (0 : Int) < (n : Int) := by omega
   clear hold hROW hG hRs hW1 hN hh1
   go_enter Tryz.func62, Tryz.ntmps62
   go_wp2_with (at_builtin; refine Lib.wpList_append_run _ rfl _ _ _ _ rfl _ _ rfl rfl _ _ (hrz _) ?_)
   go_ret
   exact ⟨⟨_, rfl, hO.out⟩, hB.out⟩
def Lv (w : World) (vs : List Value) (ls : List (List Ent)) : Prop :=
 vs.length = ls.length ∧ ∀ (i : Nat) (h : i < ls.length) (hv : i < vs.length), ∃ A c, vs[i] = .slice A ls[i].length c ∧ ls[i].length ≤ c ∧ c ≤ maxLen ∧ Rd w 4 A ls[i].length (ents ls[i]) ∧ (A = none → c = 0)
theorem cat_succ (ls : List (List Ent)) {k : Nat} (hk : k < ls.length) : (ls.take (k + 1)).flatten = (ls.take k).flatten ++ ls[k] := by
 rw [List.take_succ_eq_append_getElem hk, List.flatten_append, List.flatten_cons, List.flatten_nil, List.append_nil]
theorem cat_le (ls : List (List Ent)) (k : Nat) : (ls.take k).flatten.length ≤ ls.flatten.length := by
 conv => rhs; rw [← List.take_append_drop k ls, List.flatten_append, List.length_append]
 omega
theorem ents_c (L : List Ent) : ∀ u ∈ ents L, u.oneCell' = true := by
 intro u hu
 unfold ents at hu
 obtain ⟨l, -, hl⟩ := List.mem_flatMap.1 hu
 exact Rte.cells_one l u hl
set_option maxHeartbeats 4000000 in
set_option maxRecDepth 100000 in
theorem concat_any (b c : Nat) (vs : List Value) (ls : List (List Ent)) (w : World) (hvs : ∀ i v, vs[i]? = some v → w.cell? ⟨b, i, none⟩ = some v) (hb : b < w.heap.size) (hL : Lv w vs ls) (htot : ls.flatten.length ≤ 1000000) (hfew : ls.length ≤ 1000) :
 Calls Tryz.prog 28 #[.slice (some ⟨b, 0, none⟩) ls.length c] w (EntsEnd w ls.flatten) := by
 obtain ⟨i0, hi, hz0, hz1, hz2⟩ := info_parts info_ent
 have hall : ∀ (i : Nat) (h : i < ls.length), ∃ A c, w.cell? ⟨b, i, none⟩ = some (.slice A ls[i].length c) ∧ ls[i].length ≤ c ∧ c ≤ maxLen ∧ Rd w 4 A ls[i].length (ents ls[i]) ∧ (A = none → c = 0) := fun i h => by
  obtain ⟨A, c, e, h1, h2, h3, h4⟩ := hL.2 i h (by rw [hL.1]; exact h)
  exact ⟨A, c, by rw [← e]; exact hvs i _ (List.getElem?_eq_getElem _), h1, h2, h3, h4⟩
 have HALL := Lib.hid hall
 have HBB := Lib.hid hb
 have HCS := Lib.hid (fun k (hk : k < ls.length) => cat_succ ls hk)
 have HCL := Lib.hid (cat_le ls)
 have HG := Lib.hid (grow_any ls.flatten.length w htot)
 clear hall hL hvs hb
 generalize hT : ls.flatten = T at *
 have HT := Lib.hid hT
 clear hT
 go_enter Tryz.func28, Tryz.ntmps28
 go_wp2
 go_loopw [3, 11] (fun vn vi wr => ∃ k : Nat, k ≤ ls.length ∧ vi = .int .i64 k ∧ vn = .int .i64 ((ls.take k).flatten.length : Nat) ∧ wr = w) (fun _ vi _ => ls.length - (intOf vi).toNat)
 case atStart => exact ⟨0, Nat.zero_le _, rfl, rfl, rfl⟩
 case round =>
  obtain ⟨k, hk, rfl, rfl, hwe⟩ := hrel
  have hwe := hwe.symm
  subst hwe
  by_cases hlt : k < ls.length
  · obtain ⟨A, cc, hx, h1, h2, -, -⟩ := HALL.out k hlt
    have hadd : (⟨b, 0, none⟩ : Addr).add k = ⟨b, k, none⟩ := by rw [add_plain, Nat.zero_add]
    have hs := congrArg List.length (HCS.out k hlt)
    rw [List.length_append] at hs
    have hle := HCL.out (k + 1)
    have hss : (((ls.take k).flatten.length : Nat) : Int) + ((ls[k].length : Nat) : Int) = (((ls.take (k + 1)).flatten.length : Nat) : Int) := by omega
    generalize (ls.take k).flatten.length = m at *
    generalize ls[k].length = q at *
    generalize hmm : (ls.take (k + 1)).flatten.length = mm at *
    have HMM := Lib.hid hmm
    clear hs hmm
    go_wp2
    go_roundw
    case rel => exact ⟨k + 1, by omega, by go_num, by rw [HMM.out], by simp⟩
    case measure => simp [intOf]; omega
  · have hke : k = ls.length := by omega
    have hm : (ls.take k).flatten.length = T.length := by rw [hke, List.take_length, HT.out]
    rw [hm]
    clear hm
    go_wp2_with fail
    refine HG.out.mono ?_
    rintro e w2 ⟨⟨v2, rfl, hv2⟩, hb2⟩
    have HO2 := Lib.hid hv2
    have HB2 := Lib.hid hb2
    clear hv2 hb2
    go_wp2
    go_loopw [6, 27] (fun v vi wr => ∃ q : Nat, q ≤ ls.length ∧ vi = .int .i64 q ∧ Hid (wr.ownsRow w.heap.size 35 4 v (ls.take q).flatten.length (ents (ls.take q).flatten)) ∧ Hid (Below w.heap.size w wr)) (fun _ vi _ => ls.length - (intOf vi).toNat)
    case atStart => exact ⟨0, Nat.zero_le _, rfl, HO2.out, HB2.out⟩
    case round =>
     clear HO2 HB2
     obtain ⟨q, hq, rfl, HO, HB⟩ := hrel
     by_cases hlt2 : q < ls.length
     · obtain ⟨A, cc, hx0, h1, h2, hrd, hnil⟩ := HALL.out q hlt2
       have hadd : (⟨b, 0, none⟩ : Addr).add q = ⟨b, q, none⟩ := by rw [add_plain, Nat.zero_add]
       have hx := (HB.out.cell (p := ⟨b, q, none⟩) HBB.out).trans hx0
       have HRD := Lib.hid (hrd.below HB.out)
       have HNIL := Lib.hid hnil
       have hs := HCS.out q hlt2
       have hle := HCL.out (q + 1)
       rw [hs, List.length_append] at hle
       have hN : (ls.take q).flatten.length + ls[q].length ≤ 1000000000 := by omega
       generalize hF : (ls.take q).flatten = F at *
       generalize ls[q] = M at *
       have HSS := Lib.hid hs
       clear hs hF hrd hnil hx0
       go_wp2_with (at_builtin; refine app_src rfl _ _ 25 rfl w wr 35 i0 _ 4 56 Tryz.underlying25 hi hz0 hz1 hz2 rfl (by decide) (by decide) HO.out HB.out rfl A M.length cc (ents M) rfl HRD.out HNIL.out (ents_c M) hN ?_; intro v' w' hown' hb')
       have HO3 : Hid (w'.ownsRow w.heap.size 35 4 v' (ls.take (q + 1)).flatten.length (ents (ls.take (q + 1)).flatten)) := by
        show World.ownsRow _ _ _ _ _ _ _
        rw [HSS.out, ents_append, List.length_append]; exact hown'
       have HB3 := Lib.hid hb'
       clear hown' hb'
       go_roundw
       case rel => exact ⟨q + 1, by omega, by go_num, HO3, HB3⟩
       case measure => simp [intOf]; omega
     · have hqe : q = ls.length := by omega
       have HO3 := HO.out
       rw [hqe, List.take_length, HT.out] at HO3
       have HO4 := Lib.hid HO3
       clear HO HO3
       go_wp2
       go_ret
       exact ⟨⟨_, rfl, HO4.out⟩, HB.out⟩
end Go.Proofs.YtjdknhalcpkeaaaGreatDoor
namespace Go.Proofs
open Go.Shelf
def Tryz.sortE_ren : Go.Shelf.Ren := ⟨fun | 6 => 37 | 15 => 75 | 14 => 74 | 28 => 120 | 29 => 121 | 20 => 112 | 21 => 113 | 22 => 114 | 23 => 115 | 24 => 116 | 25 => 117 | 26 => 118 | 27 => 119 | 46 => 153 | 47 => 154 | 48 => 155 | 49 => 156 | 50 => 157 | 57 => 181 | n => n, fun | 22 => 25 | 24 => 35 | 25 => 40 | 3 => 3 | 39 => 119 | 0 => 0 | 53 => 161 | 55 => 163 | 4 => 4 | 46 => 155 | 45 => 154 | 50 => 75 | 5 => 5 | 9 => 9 | 66 => 187 | 70 => 191 | 76 => 213 | 77 => 181 | n => n, fun | n => n⟩
theorem Tryz.sortE : Go.Proofs.SlLaysF0.n6 Tryz.prog Tryz.sortE_ren := {
 mixed := by kernel_rfl
 f6 := ⟨Tryz.f37.name, by decide, Tryz.func37.trans (congrArg some (by kernel_rfl))⟩
 f14 := ⟨Tryz.f74.name, by decide, Tryz.func74.trans (congrArg some (by kernel_rfl))⟩
 f15 := Tryz.func75.trans (congrArg some (by kernel_rfl))
 f20 := ⟨Tryz.f112.name, by decide, Tryz.func112.trans (congrArg some (by kernel_rfl))⟩
 f21 := ⟨Tryz.f113.name, by decide, Tryz.func113.trans (congrArg some (by kernel_rfl))⟩
 f22 := ⟨Tryz.f114.name, by decide, Tryz.func114.trans (congrArg some (by kernel_rfl))⟩
 f23 := ⟨Tryz.f115.name, by decide, Tryz.func115.trans (congrArg some (by kernel_rfl))⟩
 f24 := ⟨Tryz.f116.name, by decide, Tryz.func116.trans (congrArg some (by kernel_rfl))⟩
 f25 := ⟨Tryz.f117.name, by decide, Tryz.func117.trans (congrArg some (by kernel_rfl))⟩
 f26 := ⟨Tryz.f118.name, by decide, Tryz.func118.trans (congrArg some (by kernel_rfl))⟩
 f27 := ⟨Tryz.f119.name, by decide, Tryz.func119.trans (congrArg some (by kernel_rfl))⟩
 f28 := Tryz.func120.trans (congrArg some (by kernel_rfl))
 f29 := Tryz.func121.trans (congrArg some (by kernel_rfl))
 f46 := ⟨Tryz.f153.name, by decide, Tryz.func153.trans (congrArg some (by kernel_rfl))⟩
 f47 := Tryz.func154.trans (congrArg some (by kernel_rfl))
 f48 := Tryz.func155.trans (congrArg some (by kernel_rfl))
 f49 := ⟨Tryz.f156.name, by decide, Tryz.func156.trans (congrArg some (by kernel_rfl))⟩
 f50 := ⟨Tryz.f157.name, by decide, Tryz.func157.trans (congrArg some (by kernel_rfl))⟩
 f57 := ⟨Tryz.f181.name, by decide, Tryz.func181.trans (congrArg some (by kernel_rfl))⟩
 t0 := Tryz.underlying0
 a0 := Tryz.isAgg0
 z0 := Tryz.sizeOf0
 v0 := Tryz.zeroValue0
 t3 := Tryz.underlying3
 a3 := Tryz.isAgg3
 z3 := Tryz.sizeOf3
 v3 := Tryz.zeroValue3
 t4 := Tryz.underlying4
 a4 := Tryz.isAgg4
 z4 := Tryz.sizeOf4
 v4 := Tryz.zeroValue4
 t5 := Tryz.underlying5
 a5 := Tryz.isAgg5
 z5 := Tryz.sizeOf5
 v5 := Tryz.zeroValue5
 t9 := Tryz.underlying9
 a9 := Tryz.isAgg9
 z9 := Tryz.sizeOf9
 v9 := Tryz.zeroValue9
 t22 := Tryz.underlying25
 a22 := Tryz.isAgg25
 z22 := Tryz.sizeOf25
 v22 := Tryz.zeroValue25
 t25 := Tryz.underlying40
 a25 := Tryz.isAgg40
 z25 := Tryz.sizeOf40
 v25 := Tryz.zeroValue40
 t39 := Tryz.underlying119
 a39 := Tryz.isAgg119
 z39 := Tryz.sizeOf119
 v39 := Tryz.zeroValue119
 t45 := Tryz.underlying154
 a45 := Tryz.isAgg154
 z45 := Tryz.sizeOf154
 v45 := Tryz.zeroValue154
 t46 := Tryz.underlying155
 a46 := Tryz.isAgg155
 z46 := Tryz.sizeOf155
 v46 := Tryz.zeroValue155
 t50 := Tryz.underlying75
 a50 := Tryz.isAgg75
 z50 := Tryz.sizeOf75
 v50 := Tryz.zeroValue75
 t53 := Tryz.underlying161
 a53 := Tryz.isAgg161
 z53 := Tryz.sizeOf161
 v53 := Tryz.zeroValue161
 t55 := Tryz.underlying163
 a55 := Tryz.isAgg163
 z55 := Tryz.sizeOf163
 v55 := Tryz.zeroValue163
 t66 := Tryz.underlying187
 a66 := Tryz.isAgg187
 z66 := Tryz.sizeOf187
 v66 := Tryz.zeroValue187
 t70 := Tryz.underlying191
 a70 := Tryz.isAgg191
 z70 := Tryz.sizeOf191
 v70 := Tryz.zeroValue191
 t76 := Tryz.underlying213
 a76 := Tryz.isAgg213
 z76 := Tryz.sizeOf213
 v76 := Tryz.zeroValue213
 t77 := Tryz.underlying181
 a77 := Tryz.isAgg181
 z77 := Tryz.sizeOf181
 v77 := Tryz.zeroValue181 }
end Go.Proofs
namespace Go.Proofs.YtjdknhalcpkeaaaGreatDoor
open Go Go.RowKit Go.Sort Rte Sch Tre Hst
set_option maxHeartbeats 1000000 in
set_option maxRecDepth 100000 in
theorem cloneEnts (A : Option Addr) (c : Nat) (M : List Ent) (w : World) (hR : Rd w 4 A M.length (ents M)) (hnil : A = none → c = 0) (hb : M.length ≤ 10000000) :
 Calls Tryz.prog 36 #[.slice A M.length c] w (EntsEnd w M) := by
 obtain ⟨i0, hii, hz0, hz1, hz2⟩ := info_parts info_ent
 cases A with
 | none =>
   have h0 : M.length = 0 := by
    rcases Nat.eq_zero_or_pos M.length with h | h
    · exact h
    · obtain ⟨ad, e, -⟩ := hR.2 h; cases e
   obtain rfl := List.eq_nil_of_length_eq_zero h0
   obtain rfl := hnil rfl
   have heq := fun wx : World => Lib.run_eql_slice_nil (P := Tryz.prog) wx 25 35 none 0 0 0 0 Tryz.underlying25
   go_enter Tryz.func36, Tryz.ntmps36
   go_wp2
   go_ret
   exact ⟨⟨_, rfl, World.ownsRow_nil _ _ _ _⟩, Below.refl _ _⟩
 | some ad =>
   obtain ⟨wo, hwo⟩ : ∃ wo, w.alloc (.cells #[] 35) = wo := ⟨_, rfl⟩
   have hbo : Below w.heap.size w wo := by rw [← hwo]; exact (Below.refl _ _).alloc (Nat.le_refl _) _
   have hown : wo.ownsRow w.heap.size 35 4 (.slice (some ⟨w.heap.size, 0, none⟩) 0 0) 0 [] := by
    rw [← hwo]
    have := World.ownsRow_lit (e := 35) (size := 4) (base := w.heap.size) w #[] 0 (Nat.le_refl _) (by unfold maxLen; omega) rfl
    simpa using this
   have HR := Lib.hid (hR.below hbo)
   have HO := Lib.hid hown
   have HBo := Lib.hid hbo
   have heq := fun wx : World => Lib.run_eql_slice_nil (P := Tryz.prog) wx 25 35 (some ad) M.length c 0 0 Tryz.underlying25
   have HN : Hid (0 + M.length ≤ 1000000000) := by show _ ≤ _; omega
   clear hR hown hbo
   go_enter Tryz.func36, Tryz.ntmps36
   go_wp2_with (at_builtin; (refine app_src rfl _ _ 25 rfl w wo 35 i0 _ 4 56 Tryz.underlying25 hii hz0 hz1 hz2 rfl (by decide) (by decide) HO.out HBo.out rfl (some ad) M.length c (ents M) rfl HR.out (fun h => by cases h) (ents_c _) HN.out ?_; intro v1 w3 hown1 hb3))
   have HO3 : Hid (w3.ownsRow w.heap.size 35 4 v1 M.length (ents M)) := by show World.ownsRow _ _ _ _ _ _ _; simpa using hown1
   clear hown1
   go_wp2_with fail
   go_ret
   exact ⟨⟨_, rfl, HO3.out⟩, hb3⟩
theorem size_ent (w : World) : (Go.sizeOf 35).run Tryz.prog w = .ok 4 w := by
 obtain ⟨i0, hii, hz0, hz1, hz2⟩ := info_parts info_ent
 simp [sizeOf, typeInfo, hii, hz1]
theorem sort_own (g c : Nat) (L : List Ent) (w : World) (hR : Rw w g L w) (hl : L.length ≤ 10000000) :
 Calls Tryz.prog 37 #[.slice (some ⟨g, 0, none⟩) L.length c, .func (.func 19) #[] #[]] w fun e w' => e = .returned (.tuple #[]) ∧ Rw w g (sortE L) w' := by
 have hcmp : CmpLays Tryz.prog 19 #[] Ent.cells 4 cmpE g 0 L.toArray.size w := fun m os dk _ x y => by
  have := compare_any x y (sortWorldK Ent.cells 4 w g 0 m dk os)
  exact this
 have h := AnyQ.slices_SortFunc_total Tryz.sortE 4 Tryz.isAgg35 size_ent Ent.cells (fun _ => rfl) (fun x => Rte.cells_one x) cmpE swo_ent 19 #[] g 0 c L.toArray w
  (enters_of Tryz.func19 (by kernel_rfl) rfl) hcmp hR.holdsK (Nat.lt_of_lt_of_le hR.lt hR.kp.size) (by simp; omega) total_ent
 have h2 : Calls Tryz.prog 37 #[.slice (some ⟨g, 0, none⟩) L.toArray.size c, .func (.func 19) #[] #[]] w _ := h
 rw [List.size_toArray] at h2
 refine h2.mono fun e w' ⟨h1, n, os, hw⟩ => ⟨h1, ?_⟩
 rw [hw]
 have := Rw.of_sort (d := (sortE L).toArray) (n := n) (os := os) hR (by rw [List.size_toArray, sortE_len])
 exact this
theorem Rw.set {w0 W : World} {g : Nat} {L : List Ent} (h : Rw w0 g L W) {i : Nat} (hi : i < L.length) (e : Ent) : Rw w0 g (L.set i e) (W.setCells g (i * 4) e.cells) := by
 have hsome : ∀ j, j < e.cells.length → (W.cell? ⟨g, i * 4 + j, none⟩).isSome = true := fun j hj => by
  have hj4 : j < 4 := hj
  have := ents_get L i j hi hj4
  rw [List.getElem?_eq_getElem (show j < (L[i].cells).length from hj4)] at this
  rw [(h.holds _ _ this).1]; rfl
 refine ⟨?_, h.lt, fun j u hu => ?_⟩
 · have hk := h.kp
   show Kh w0 g (((W.setCell _ _).setCell _ _ |>.setCell _ _).setCell _ _)
   exact (((hk.set _ _).set _ _).set _ _).set _ _
 · have hj : j < L.length * 4 := by
    have := (List.getElem?_eq_some_iff.1 hu).1
    rw [ents_length] at this; simpa using this
   obtain ⟨q, r, hr, rfl⟩ : ∃ q r, r < 4 ∧ j = q * 4 + r := ⟨j / 4, j % 4, by omega, by omega⟩
   have hq : q < L.length := by omega
   rw [ents_get (L.set i e) q r (by simpa using hq) hr] at hu
   simp only [List.getElem_set] at hu
   refine ⟨?_, ?_⟩
   · by_cases hqi : i = q
     · subst hqi
       rw [if_pos rfl] at hu
       rw [World.cell?_setCells_in g e.cells (i * 4) W hsome r hr]
       rw [List.getElem?_eq_getElem (show r < e.cells.length from hr)] at hu
       exact hu
     · rw [if_neg hqi, ← ents_get L q r hq hr] at hu
       rw [World.cell?_setCells_out g e.cells (i * 4) W _ (fun _ _ => by show q * 4 + r < i * 4 ∨ i * 4 + 4 ≤ q * 4 + r; omega)]
       exact (h.holds _ _ hu).1
   · rw [World.frozen?_setCells]
     obtain ⟨u2, hu2⟩ : ∃ u2, (ents L)[q * 4 + r]? = some u2 := ⟨_, List.getElem?_eq_getElem (by rw [ents_length]; omega)⟩
     exact (h.holds _ _ hu2).2
end Go.Proofs.YtjdknhalcpkeaaaGreatDoor
namespace Hst
open Go Rte
theorem ent_if {α : Type} (x y : Ent) (t f : α) : (if x.host.toList = y.host.toList then if x.kind = y.kind then if x.key.toList = y.key.toList then if x.val.toList = y.val.toList then t else f else f else f else f) = if x = y then t else f := by
 by_cases h : x = y
 · subst h; simp
 · rw [if_neg h]
   by_cases h1 : x.host.toList = y.host.toList
   · by_cases h2 : x.kind = y.kind
     · by_cases h3 : x.key.toList = y.key.toList
       · by_cases h4 : x.val.toList = y.val.toList
         · exact absurd (ent_ext (Tre.bytes_inj h1) h2 (Tre.bytes_inj h3) (Tre.bytes_inj h4)) h
         · rw [if_pos h1, if_pos h2, if_pos h3, if_neg h4]
       · rw [if_pos h1, if_pos h2, if_neg h3]
     · rw [if_pos h1, if_neg h2]
   · rw [if_neg h1]
end Hst
namespace Go.Proofs.YtjdknhalcpkeaaaGreatDoor
open Go Go.RowKit Go.Sort Rte Hst
set_option maxHeartbeats 1000000 in
theorem rsame_any (A B : Option Addr) (ca cb : Nat) (L M : List Ent) (w : World) (hA : Rd w 4 A L.length (ents L)) (hB : Rd w 4 B M.length (ents M)) (hl : L.length ≤ 1000000000) :
 Calls Tryz.prog 14 #[.slice A L.length ca, .slice B M.length cb] w fun e w' => e = .returned (.bool (decide (L = M))) ∧ Below w.heap.size w w' := by
 have HA := Lib.hid hA
 have HB := Lib.hid hB
 clear hA hB
 by_cases h1 : L.length = M.length
 · rw [← h1]
   have H1 := Lib.hid h1
   clear h1
   go_enter Tryz.func14, Tryz.ntmps14
   go_wp2
   go_loopw [5] (fun vi wr => ∃ k : Nat, k ≤ L.length ∧ vi = .int .i64 k ∧ Hid (L.take k = M.take k) ∧ Hid (Below w.heap.size w wr)) (fun vi _ => L.length - (intOf vi).toNat)
   case atStart => exact ⟨0, Nat.zero_le _, rfl, rfl, Below.refl _ _⟩
   case round =>
    obtain ⟨k, hk, rfl, HQ, HBw⟩ := hrel
    by_cases hlt : k < L.length
    · have hltm : k < M.length := by have := H1.out; omega
      obtain ⟨B1, O1, rfl, hab, hadd, x0, x1, x2, x3⟩ := (HA.out.below HBw.out).ent hlt
      obtain ⟨B2, O2, rfl, hab2, hadd2, y0, y1, y2, y3⟩ := (HB.out.below HBw.out).ent (i := k) hltm
      have hst : L[k] = M[k] → L.take (k + 1) = M.take (k + 1) := fun e => by
       rw [List.take_succ_eq_append_getElem hlt, List.take_succ_eq_append_getElem hltm, HQ.out, e]
      have hno : L[k] ≠ M[k] → decide (L = M) = false := fun e => by
       rw [decide_eq_false_iff_not]
       intro h
       subst h
       exact e rfl
      generalize L[k] = x at *
      generalize M[k] = y at *
      have HST := Lib.hid hst
      have HNO := Lib.hid hno
      clear hst hno
      go_wp2_with fail
      refine wp_region_quiet_lit (by kernel_rfl) (by kernel_rfl) ?_
      repeat (go_big_quiet_step (fail))
      refine wpQuiet_step (fun K hK => ?_)
      go_simp
      simp only [ent_if]
      by_cases hxy : x = y
      · have HN := Lib.hid (HST.out hxy)
        refine ⟨.bool false, fun a => by rw [if_pos hxy]; exact ⟨rfl, rfl⟩, hK _ ?_⟩
        clear hK K HST HNO
        refine wpQuiet_nil ?_
        intro _ hw'
        obtain ⟨nq, hw''⟩ := hw'
        subst hw''
        go_wp2
        go_roundw
        case rel => exact ⟨k + 1, by omega, by go_num, HN, below_drewN HBw.out _⟩
        case measure => simp [intOf]; omega
      · have HN := Lib.hid (HNO.out hxy)
        refine ⟨.bool true, fun a => by rw [if_neg hxy]; exact ⟨rfl, rfl⟩, hK _ ?_⟩
        clear hK K HST HNO
        refine wpQuiet_nil ?_
        intro _ hw'
        obtain ⟨nq, hw''⟩ := hw'
        subst hw''
        go_wp2
        go_ret
        exact ⟨by rw [HN.out]; rfl, below_drewN HBw.out _⟩
    · have hke : k = L.length := by omega
      have hq := HQ.out
      rw [hke, List.take_length, H1.out, List.take_length] at hq
      have HN : Hid (decide (L = M) = true) := decide_eq_true hq
      clear HQ hq
      go_wp2
      go_ret
      exact ⟨by rw [HN.out]; rfl, HBw.out⟩
 · have HN : Hid (decide (L = M) = false) := decide_eq_false fun e => h1 (by rw [e])
   have h1' : ¬ ((L.length : Int) = (M.length : Int)) := by omega
   go_enter Tryz.func14, Tryz.ntmps14
   go_wp2
   go_ret
   exact ⟨by rw [HN.out]; rfl, Below.refl _ _⟩
end Go.Proofs.YtjdknhalcpkeaaaGreatDoor
