/- A walk: the law RouteTurned. -/
import Derived.Test.YtlojeeakjgalpaaDoorLwO
namespace Rte
open Go Adr
/-- The entries, turned: from behind, from a place on. -/
def tl (L : List Ent) (m k : Nat) : List Ent := (List.range k).filterMap fun i => L[(L.length - i + m) % L.length]?
theorem tl_succ {L : List Ent} {m k j : Nat} (hj : (L.length - k + m) % L.length = j) (h : j < L.length) : tl L m (k + 1) = tl L m k ++ [L[j]] := by
  unfold tl
  rw [List.range_succ, List.filterMap_append]
  congr 1
  simp [hj, h]
theorem tl_len (L : List Ent) (m k : Nat) : (tl L m k).length ≤ k := by
  unfold tl; exact Nat.le_trans (List.length_filterMap_le _ _) (by simp)
theorem tl_mem {L : List Ent} {m : Nat} (hm : m < L.length) (e : Ent) : e ∈ tl L m L.length ↔ e ∈ L := by
  unfold tl
  rw [List.mem_filterMap]
  constructor
  · rintro ⟨i, -, h⟩
    exact List.mem_of_getElem? h
  · intro he
    obtain ⟨j, hj, rfl⟩ := List.getElem_of_mem he
    by_cases hjm : j ≤ m
    · refine ⟨m - j, List.mem_range.2 (by omega), ?_⟩
      rw [show L.length - (m - j) + m = L.length + j by omega, Nat.add_mod_left, Nat.mod_eq_of_lt hj]
      exact List.getElem?_eq_getElem hj
    · refine ⟨L.length + m - j, List.mem_range.2 (by omega), ?_⟩
      rw [show L.length - (L.length + m - j) + m = j by omega, Nat.mod_eq_of_lt hj]
      exact List.getElem?_eq_getElem hj
/-- Two entries of which each has a Key, and a prefix, of its own. -/
def Two (x y : Ent) : Prop := x.key ≠ y.key ∧ ¬ (0 ≤ (pfx x).1 ∧ pfx x = pfx y)
end Rte
namespace Go.Proofs.YtlojeeakjgalpaaDoor
open Go Go.RowKit Rte

theorem beq_keys {a b : ByteArray} : (a.toList == b.toList) = decide (a = b) := by
  by_cases h : a = b
  · subst h; simp
  · rw [decide_eq_false h]; simpa using bytes_ne h

set_option maxHeartbeats 4000000 in
set_option maxRecDepth 100000 in
theorem routeTurned_any (A : Option Addr) (cap : Nat) (L : List Ent) (h : ByteArray) (fr dt : Int) (y0 : Int) (w : World) (hE : Env w) (hR : Rd w 4 A L.length (ents L)) (hcap : L.length ≤ cap) (hcm : cap ≤ maxLen) (hh : h.size ≤ maxLen) (hy : 0 ≤ y0 ∧ y0 ≤ 255) :
    Calls Tryd.prog 6 #[.slice A L.length cap, .string h, .int .i64 fr, .int .i64 dt, .int .u8 y0] w fun e w' => e = .returned (.bool true) ∧ Below w.heap.size w w' := by
  obtain ⟨i0, hi, hz0, hz1, hz2⟩ := info_parts info_ent
  obtain ⟨hy0, hy1⟩ := hy
  obtain ⟨y, rfl⟩ := Int.eq_ofNat_of_zero_le hy0
  clear hy0
  have HF := Lib.hid (few_any A cap L w hR hcap hcm)
  have HCM := Lib.hid hcm
  unfold maxLen at hcm hh
  go_enter Tryd.func6, Tryd.ntmps6
  go_wp2_with fail
  refine HF.out.mono ?_
  rintro e w1 ⟨rfl, hb1⟩
  have hE1 := hE.below hb1
  have hR1 := hR.below hb1
  have HB1 := Lib.hid hb1
  have HFA : Hid (fewB L = true → L.length ≤ 60 ∧ ∀ e ∈ L, e.host.size ≤ 100 ∧ e.key.size ≤ 100 ∧ e.val.size ≤ 100) := fewB_all
  clear hE hR hb1 HF
  generalize fewB L = fb at *
  have hcase : fb = false ∨ (fb = true ∧ 30 < L.length) ∨ (fb = true ∧ L.length ≤ 30 ∧ L.length = 0) ∨ (fb = true ∧ L.length ≤ 30 ∧ 0 < L.length ∧ 100 < h.size) ∨ (fb = true ∧ L.length ≤ 30 ∧ 0 < L.length ∧ h.size ≤ 100) := by
    cases fb
    · exact .inl rfl
    · right; simp only [true_and]; omega
  rcases hcase with hc | ⟨hc, hn⟩ | ⟨hc, hn, hn0⟩ | ⟨hc, hn, hn0, h100⟩ | ⟨hc, hn, hn0, h100⟩
  · subst hc
    go_wp2_with fail
    all_goals
      refine (awake15_any _ hE1).mono ?_
      rintro e w2 ⟨rfl, hb2⟩
      go_wp2_with fail
      go_ret
      exact ⟨rfl, below_step HB1.out hb2⟩
  · subst hc
    have hnz : (30 : Int) < (L.length : Int) := by omega
    go_wp2_with fail
    all_goals
      refine (awake15_any _ hE1).mono ?_
      rintro e w2 ⟨rfl, hb2⟩
      go_wp2_with fail
      go_ret
      exact ⟨rfl, below_step HB1.out hb2⟩
  · subst hc
    have hnz : ¬ (30 : Int) < (L.length : Int) := by omega
    have hnb : ((L.length : Int) == 0) = true := by rw [beq_iff_eq]; omega
    clear hn0
    go_wp2_with fail
    all_goals
      refine (awake15_any _ hE1).mono ?_
      rintro e w2 ⟨rfl, hb2⟩
      go_wp2_with fail
      go_ret
      exact ⟨rfl, below_step HB1.out hb2⟩
  · subst hc
    have hnz : ¬ (30 : Int) < (L.length : Int) := by omega
    have hnb : ((L.length : Int) == 0) = false := by rw [beq_eq_false_iff_ne]; omega
    have h100z : (100 : Int) < (h.size : Int) := by omega
    go_wp2_with fail
    all_goals
      refine (awake15_any _ hE1).mono ?_
      rintro e w2 ⟨rfl, hb2⟩
      go_wp2_with fail
      go_ret
      exact ⟨rfl, below_step HB1.out hb2⟩
  · subst hc
    have hnz : ¬ (30 : Int) < (L.length : Int) := by omega
    have hnb : ((L.length : Int) == 0) = false := by rw [beq_eq_false_iff_ne]; omega
    have h100z : ¬ (100 : Int) < (h.size : Int) := by omega
    have HK := Lib.hid (HFA.out rfl).2
    have HE1 := Lib.hid hE1
    have HR1 := Lib.hid hR1
    obtain ⟨m, hm⟩ : ∃ m, y % L.length = m := ⟨_, rfl⟩
    have hml : m < L.length := by rw [← hm]; exact Nat.mod_lt _ hn0
    have em : (y : Int) % (L.length : Int) = (m : Int) := by rw [← hm]; simp
    have HM := Lib.hid hm
    clear HFA hE1 hR1 hm
    go_wp2
    go_loopw [11, 46] (fun v vi wr => ∃ k : Nat, k ≤ L.length ∧ vi = .int .i64 k ∧ wr.ownsRow w1.heap.size 29 4 v (tl L m k).length (ents (tl L m k)) ∧ Below w1.heap.size w1 wr) (fun _ vi _ => L.length - (intOf vi).toNat)
    case atStart => exact ⟨0, Nat.zero_le _, rfl, World.ownsRow_nil _ _ _ _, Below.refl _ _⟩
    case round =>
      obtain ⟨k, hk, rfl, hown, hb⟩ := hrel
      by_cases hlt : k < L.length
      · obtain ⟨j, hj⟩ : ∃ j, (L.length - k + m) % L.length = j := ⟨_, rfl⟩
        have hjl : j < L.length := by rw [← hj]; exact Nat.mod_lt _ hn0
        have ej : ((L.length : Int) - (k : Int) + (m : Int)) % (L.length : Int) = (j : Int) := by
          rw [← hj, show ((L.length : Int) - (k : Int) + (m : Int)) = ((L.length - k + m : Nat) : Int) by omega]; simp
        have HT := Lib.hid (tl_succ hj hjl)
        have hlen := tl_len L m k
        obtain ⟨B, O, rfl, hab, hadd, x0, x1, x2, x3⟩ := (HR1.out.below hb).ent hjl
        clear hj
        generalize tl L m k = F at *
        generalize L[j] = x at *
        have hlF : F.length ≤ 1000 := by omega
        clear hlen
        go_wp2_with (at_builtin; refine app_new rfl _ _ 26 rfl w1 wr 29 i0 _ 4 56 Tryd.underlying26 hi hz0 hz1 hz2 rfl (by decide) (by decide) hown hb rfl 1 1 [.string x.host, .int .i64 x.kind, .string x.key, .string x.val] rfl rfl (cells_one x) (by omega) ?_; intro v' w' hown' hb')
        go_roundw
        case rel => exact ⟨k + 1, by omega, by go_num, by rw [HT.out]; exact own_push_ent hown', hb'⟩
        case measure => simp [intOf]; omega
      · obtain rfl : k = L.length := by omega
        have HTM := Lib.hid (fun e => tl_mem (L := L) hml e)
        have hTl := tl_len L m L.length
        generalize tl L m L.length = T at *
        obtain ⟨A2, c2, rfl, g1, g2, hT2⟩ := rd_own hown
        have HE2 := Lib.hid (HE1.out.below hb)
        have HR2 := Lib.hid (HR1.out.below hb)
        have HT2 := Lib.hid hT2
        have HB2 : Hid (Below w.heap.size w wr) := below_step HB1.out hb
        clear hT2 hown hb HE1 HR1 HB1 em
        go_wp2
        generalize wr = w2 at *
        go_loopw [71] (fun vi wr => ∃ k : Nat, k ≤ L.length ∧ vi = .int .i64 k ∧ Hid (∀ i j (hi : i < L.length) (hj : j < L.length), i < k → j < i → Two L[i] L[j]) ∧ Hid (Below w2.heap.size w2 wr)) (fun vi _ => L.length - (intOf vi).toNat)
        case atStart => exact ⟨0, Nat.zero_le _, rfl, (show ∀ i j (hi : i < L.length) (hj : j < L.length), i < 0 → j < i → Two L[i] L[j] from fun i j _ _ h0 => absurd h0 (by omega)), Below.refl _ _⟩
        case round =>
          obtain ⟨k, hk, rfl, HQ, HB⟩ := hrel
          by_cases hlt : k < L.length
          · obtain ⟨B, O, rfl, hab, hadd, x0, x1, x2, x3⟩ := (HR2.out.below HB.out).ent hlt
            have hkc : k ≤ cap := by omega
            have hbx : Below w2.heap.size w2 (wr.alloc (.cells #[.string L[k].host, .int .i64 L[k].kind, .string L[k].key, .string L[k].val] 29)) := HB.out.alloc HB.out.size _
            have HBX := Lib.hid hbx
            have HXK := Lib.hid (HK.out _ (List.getElem_mem hlt)).2.1
            have a2 : (wr.alloc (.cells #[.string L[k].host, .int .i64 L[k].kind, .string L[k].key, .string L[k].val] 29)).cell? ⟨wr.heap.size, 2, none⟩ = some (.string L[k].key) := by rw [World.cell?_alloc_at _ _ _ _ rfl]; rfl
            have hbl : wr.heap.size < (wr.alloc (.cells #[.string L[k].host, .int .i64 L[k].kind, .string L[k].key, .string L[k].val] 29)).heap.size := by simp
            clear hbx
            go_wp2
            generalize wr.alloc (.cells #[.string L[k].host, .int .i64 L[k].kind, .string L[k].key, .string L[k].val] 29) = wa at *
            generalize wr.heap.size = bx at a2 hbl ⊢
            clear HB x0 x1 x2 x3 hadd
            go_loopw [80] (fun vq w5 => ∃ q : Nat, q ≤ k ∧ vq = .int .i64 q ∧ Hid (∀ j (hj : j < L.length), j < q → Two L[k] L[j]) ∧ Hid (Below wa.heap.size wa w5)) (fun vq _ => k - (intOf vq).toNat)
            case atStart => exact ⟨0, Nat.zero_le _, rfl, (show ∀ j (hj : j < L.length), j < 0 → Two L[k] L[j] from fun j _ h0 => absurd h0 (by omega)), Below.refl _ _⟩
            case round =>
              obtain ⟨q, hqk, rfl, HQ2, HB5⟩ := hrel
              by_cases hqlt : q < k
              · have hql : q < L.length := by omega
                have hb25 : Below w2.heap.size w2 wr := HBX.out.trans (HB5.out.mono HBX.out.size)
                obtain ⟨B', O', hA', -, hadd', z0, z1, z2, z3⟩ := (HR2.out.below hb25).ent hql
                injection hA' with hA'
                injection hA' with hBB hOO
                subst hBB hOO
                have HXQ := Lib.hid (HK.out _ (List.getElem_mem hql)).2.1
                have HP1 := Lib.hid (show ∀ W, _ from fun W => refPre_any L[k].key W (by have := HXK.out; omega))
                have HP2 := Lib.hid (show ∀ W, _ from fun W => refPre_any L[q].key W (by have := HXQ.out; omega))
                have hst : Hid (Two L[k] L[q] → ∀ j (hj : j < L.length), j < q + 1 → Two L[k] L[j]) := fun h2 j hj hjk => by
                  by_cases e : j = q
                  · subst e; exact h2
                  · exact HQ2.out j hj (by omega)
                have HTW : Hid (Two L[k] L[q] ↔ L[k].key ≠ L[q].key ∧ ¬ (0 ≤ (pfx L[k]).1 ∧ pfx L[k] = pfx L[q])) := Iff.rfl
                have a5 : wr.cell? ⟨bx, 2, none⟩ = some (.string L[k].key) := (HB5.out.cell (p := ⟨bx, 2, none⟩) hbl).trans a2
                have hbl5 : bx < wr.heap.size := Nat.lt_of_lt_of_le hbl HB5.out.size
                have a5' : (wr.alloc (.cells #[.string L[q].host, .int .i64 L[q].kind, .string L[q].key, .string L[q].val] 29)).cell? ⟨bx, 2, none⟩ = some (.string L[k].key) := by
                  rw [World.cell?_alloc_lt _ _ _ hbl5]; exact a5
                have HX1 : Hid (Adr.pre L[k].key.data.toList = pfx L[k]) := rfl
                have HX2 : Hid (Adr.pre L[q].key.data.toList = pfx L[q]) := rfl
                go_wp2_with fail
                refine (HP1.out _).mono ?_
                rintro e w6 ⟨rfl, hb6⟩
                obtain ⟨g0, g1', g2', g3⟩ := box_cells L[q] hb6
                have a6 : w6.cell? ⟨bx, 2, none⟩ = some (.string L[k].key) := (hb6.cell (p := ⟨bx, 2, none⟩) (show bx < _ by simp; omega)).trans a5'
                have HB6 : Hid (Below wa.heap.size wa w6) := HB5.out.trans (((Below.refl _ _).alloc (Nat.le_refl _) _).trans (hb6.mono (by simp)) |>.mono HB5.out.size)
                have hl6 : wr.heap.size < w6.heap.size := Nat.lt_of_lt_of_le (by simp) hb6.size
                rw [HX1.out]
                clear hb6 HP1 HX1 a5 a5' z0 z1 z2 z3 g0 g1' g3 HB5 HQ2
                generalize wr.heap.size = cx at g2' hl6 hbl5 ⊢
                go_wp2_with fail
                refine (HP2.out _).mono ?_
                rintro e w7 ⟨rfl, hb7⟩
                have a7 : w7.cell? ⟨bx, 2, none⟩ = some (.string L[k].key) := (hb7.cell (p := ⟨bx, 2, none⟩) (show bx < w6.heap.size by omega)).trans a6
                have c7 : w7.cell? ⟨cx, 2, none⟩ = some (.string L[q].key) := (hb7.cell (p := ⟨cx, 2, none⟩) hl6).trans g2'
                have HB7 : Hid (Below wa.heap.size wa w7) := below_step HB6.out hb7
                rw [HX2.out]
                clear hb7 HP2 HX2 a6 g2' HB6
                have HB8 : Hid (Below w.heap.size w w7) := below_step HB2.out (HBX.out.trans (HB7.out.mono HBX.out.size))
                have hE8 : Env w7 := HE2.out.below (HBX.out.trans (HB7.out.mono HBX.out.size))
                have HKB : Hid _ := beq_keys (a := L[k].key) (b := L[q].key)
                have hpe : Hid (pfx L[k] = pfx L[q] ↔ (pfx L[k]).1 = (pfx L[q]).1 ∧ (pfx L[k]).2 = (pfx L[q]).2) := ⟨fun e => by rw [e]; exact ⟨rfl, rfl⟩, fun ⟨e1, e2⟩ => Prod.ext e1 e2⟩
                have HTW2 : Hid (Two L[k] L[q] ↔ L[k].key ≠ L[q].key ∧ ¬ (0 ≤ (pfx L[k]).1 ∧ (pfx L[k]).1 = (pfx L[q]).1 ∧ (pfx L[k]).2 = (pfx L[q]).2)) := HTW.out.trans (by rw [hpe.out])
                clear HTW hpe
                generalize (pfx L[k]).1 = n1 at *
                generalize (pfx L[k]).2 = p1 at *
                generalize (pfx L[q]).1 = n2 at *
                generalize (pfx L[q]).2 = p2 at *
                by_cases hkey : L[k].key = L[q].key
                · have hkb : (L[k].key.toList == L[q].key.toList) = true := by rw [HKB.out]; exact decide_eq_true hkey
                  clear hst HTW2 HKB hkey
                  go_wp2_with fail
                  refine (awake15_any _ hE8).mono ?_
                  rintro e w9 ⟨rfl, hb9⟩
                  have HF9 : Hid (Below w.heap.size w w9) := below_step HB8.out hb9
                  go_wp2_with fail
                  go_ret
                  exact ⟨rfl, HF9.out⟩
                · have hkb : (L[k].key.toList == L[q].key.toList) = false := by rw [HKB.out]; exact decide_eq_false hkey
                  by_cases hn1 : 0 ≤ n1
                  · by_cases hnn : n1 = n2
                    · by_cases hpp : p1 = p2
                      · have b1 : (n1 == n2) = true := by rw [beq_iff_eq]; exact hnn
                        have b2 : (p1 == p2) = true := by rw [beq_iff_eq]; exact hpp
                        clear hst HTW2 HKB hkey hnn hpp
                        go_wp2_with fail
                        refine (awake15_any _ hE8).mono ?_
                        rintro e w9 ⟨rfl, hb9⟩
                        have HF9 : Hid (Below w.heap.size w w9) := below_step HB8.out hb9
                        go_wp2_with fail
                        go_ret
                        exact ⟨rfl, HF9.out⟩
                      · have b1 : (n1 == n2) = true := by rw [beq_iff_eq]; exact hnn
                        have b2 : (p1 == p2) = false := by rw [beq_eq_false_iff_ne]; exact hpp
                        have HN := Lib.hid (hst.out (HTW2.out.2 ⟨hkey, fun hc => hpp hc.2.2⟩))
                        clear hst HTW2 HKB hkey hnn hpp
                        go_wp2_with fail
                        go_roundw
                        case rel => exact ⟨q + 1, by omega, by go_num, HN, HB7⟩
                        case measure => simp [intOf]; omega
                    · have b1 : (n1 == n2) = false := by rw [beq_eq_false_iff_ne]; exact hnn
                      have HN := Lib.hid (hst.out (HTW2.out.2 ⟨hkey, fun hc => hnn hc.2.1⟩))
                      clear hst HTW2 HKB hkey hnn
                      go_wp2_with fail
                      go_roundw
                      case rel => exact ⟨q + 1, by omega, by go_num, HN, HB7⟩
                      case measure => simp [intOf]; omega
                  · have HN := Lib.hid (hst.out (HTW2.out.2 ⟨hkey, fun hc => hn1 hc.1⟩))
                    clear hst HTW2 HKB hkey
                    go_wp2_with fail
                    go_roundw
                    case rel => exact ⟨q + 1, by omega, by go_num, HN, HB7⟩
                    case measure => simp [intOf]; omega
              · obtain rfl : q = k := by omega
                have HQ3 : Hid (∀ i j (hi : i < L.length) (hj : j < L.length), i < q + 1 → j < i → Two L[i] L[j]) := fun i j hi hj hik hji => by
                  by_cases e : i = q
                  · subst e; exact HQ2.out j hj hji
                  · exact HQ.out i j hi hj (by omega) hji
                have HB9 : Hid (Below w2.heap.size w2 wr) := HBX.out.trans (HB5.out.mono HBX.out.size)
                clear HQ HQ2 HB5 HBX
                go_wp2_with fail
                go_roundw
                case rel => exact ⟨q + 1, by omega, by go_num, HQ3, HB9⟩
                case measure => simp [intOf]; omega
          · obtain rfl : k = L.length := by omega
            have hAp : Apart L := fun i j hi hj hji => HQ.out i j hi hj hi hji
            have hlk := lk_turned hAp HTM.out h dt
            have hpm := permF_turned hAp HTM.out h fr dt
            have hsub : ∀ e ∈ T, e.host.size ≤ 100 ∧ e.key.size ≤ 100 ∧ e.val.size ≤ 100 := fun e he => HK.out e ((HTM.out e).1 he)
            have hlen2 : T.length ≤ 60 := by omega
            have hl60 : L.length ≤ 60 := by omega
            have hEr := HE2.out.below HB.out
            have hRr := HR2.out.below HB.out
            have hR2 := HT2.out.below HB.out
            have HB2' : Hid (Below w.heap.size w wr) := below_step HB2.out HB.out
            clear HB2 HB HE2 HR2 HT2 HQ HTM hAp
            have HB2 := HB2'
            clear HB2'
            have C1 := Lib.hid (show ∀ W, Env W → Rd W 4 A L.length (ents L) → _ from fun W hW hr => lookup_any A cap L h dt W hW hr hcap HCM.out fun e he => by have := (HK.out e he).2.1; omega)
            have C2 := Lib.hid (show ∀ W, Env W → Rd W 4 A2 T.length (ents T) → _ from fun W hW hr => lookup_any A2 c2 T h dt W hW hr g1 g2 fun e he => by have := (hsub e he).2.1; omega)
            have C3 := Lib.hid (show ∀ W, Env W → Rd W 4 A L.length (ents L) → _ from fun W hW hr => permitF_any A cap L h fr dt W hW hr hcap HCM.out (by omega) fun e he => by have := (HK.out e he).2; omega)
            have C4 := Lib.hid (show ∀ W, Env W → Rd W 4 A2 T.length (ents T) → _ from fun W hW hr => permitF_any A2 c2 T h fr dt W hW hr g1 g2 (by omega) fun e he => by have := (hsub e he).2; omega)
            rw [hlk] at C2
            rw [hpm] at C4
            unfold maxLen at g2
            clear hlk hpm hsub HK
            generalize (lk L h dt).2 = s at *
            generalize decide (0 ≤ (lk L h dt).1) = ok at *
            generalize permF L h fr dt = pf at *
            go_wp2_with fail
            refine (C1.out _ hEr hRr).mono ?_
            rintro e w3 ⟨rfl, hb3⟩
            have hE3 := hEr.below hb3
            have hR3 := hRr.below hb3
            have hS3 := hR2.below hb3
            have HB3 : Hid (Below w.heap.size w w3) := below_step HB2.out hb3
            clear hEr hRr hR2 hb3 C1 HB2
            go_wp2_with fail
            refine (C2.out _ hE3 hS3).mono ?_
            rintro e w4 ⟨rfl, hb4⟩
            have hE4 := hE3.below hb4
            have hR4 := hR3.below hb4
            have hS4 := hS3.below hb4
            have HB4 : Hid (Below w.heap.size w w4) := below_step HB3.out hb4
            clear hE3 hR3 hS3 hb4 C2 HB3
            have hbb : (s.toList == s.toList) = true := beq_self_eq_true _
            go_wp2_with fail
            refine (C3.out _ hE4 hR4).mono ?_
            rintro e w5 ⟨rfl, hb5⟩
            have hE5 := hE4.below hb5
            have hS5 := hS4.below hb5
            have HB5 : Hid (Below w.heap.size w w5) := below_step HB4.out hb5
            clear hE4 hR4 hS4 hb5 C3 HB4
            go_wp2_with fail
            refine (C4.out _ hE5 hS5).mono ?_
            rintro e w6 ⟨rfl, hb6⟩
            have hE6 := hE5.below hb6
            have HB6 : Hid (Below w.heap.size w w6) := below_step HB5.out hb6
            clear hE5 hS5 hb6 C4 HB5
            go_wp2_with fail
            refine (awake15_any _ hE6).mono ?_
            rintro e w7 ⟨rfl, hb7⟩
            have HB7 : Hid (Below w.heap.size w w7) := below_step HB6.out hb7
            clear hb7 HB6
            go_wp2_with fail
            go_ret
            exact ⟨by first | rfl | simp, HB7.out⟩

end Go.Proofs.YtlojeeakjgalpaaDoor
