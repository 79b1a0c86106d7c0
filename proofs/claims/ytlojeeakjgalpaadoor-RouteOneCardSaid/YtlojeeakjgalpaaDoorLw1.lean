/- A walk: the law RouteOne. -/
import Derived.Test.YtlojeeakjgalpaaDoorApp
import Derived.Test.YtlojeeakjgalpaaDoorTxtA
import Derived.Test.YtlojeeakjgalpaaDoorMacW
import Derived.Deep.DeepMust
namespace Go.Proofs.YtlojeeakjgalpaaDoor
open Go Go.RowKit Rte

theorem key_32 (a : Nat) : ((⟨(Adr.ipText a).toArray⟩ : ByteArray) ++ (⟨#[47, 51, 50]⟩ : ByteArray)) = ⟨(Adr.preText a 32).toArray⟩ := by
  have : Adr.preText a 32 = Adr.ipText a ++ [47, 51, 50] := by
    unfold Adr.preText
    rw [show Lib.decDigits 32 = [51, 50] by decide +kernel]
  rw [this]
  exact str_append (Adr.ipText a) [47, 51, 50]
theorem bytes_beq {a b : ByteArray} : (a.toList == b.toList) = decide (a = b) := by
  by_cases h : a = b
  · subst h; simp
  · rw [decide_eq_false h]; simpa using bytes_ne h

set_option maxHeartbeats 4000000 in
set_option maxRecDepth 100000 in
theorem routeOne_any (A : Option Addr) (cap : Nat) (L : List Ent) (h : ByteArray) (a0 b0 : Int) (w : World) (hE : Env w) (hR : Rd w 4 A L.length (ents L)) (hcap : L.length ≤ cap) (hcm : cap ≤ maxLen) (hnil : A = none → cap = 0) (hh : h.size ≤ maxLen) (ha : 0 ≤ a0 ∧ a0 ≤ 4294967295) (hb : 0 ≤ b0 ∧ b0 ≤ 4294967295) :
    Calls Tryd.prog 8 #[.slice A L.length cap, .string h, .int .u32 a0, .int .u32 b0] w fun e w' => e = .returned (.bool true) ∧ Below w.heap.size w w' := by
  obtain ⟨i0, hi, hz0, hz1, hz2⟩ := info_parts info_ent
  obtain ⟨ha0, ha1⟩ := ha
  obtain ⟨hb0, hb1⟩ := hb
  obtain ⟨a, rfl⟩ := Int.eq_ofNat_of_zero_le ha0
  obtain ⟨b, rfl⟩ := Int.eq_ofNat_of_zero_le hb0
  have HF := Lib.hid (few_any A cap L w hR hcap hcm)
  have HCM := Lib.hid hcm
  have HNIL := Lib.hid hnil
  unfold maxLen at hcm hh
  clear hnil ha0 hb0
  go_enter Tryd.func8, Tryd.ntmps8
  go_wp2_with fail
  refine HF.out.mono ?_
  rintro e w1 ⟨rfl, hb1⟩
  have hE1 := hE.below hb1
  have hR1 := hR.below hb1
  have HB1 := Lib.hid hb1
  have HFA : Hid (fewB L = true → L.length ≤ 60 ∧ ∀ e ∈ L, e.host.size ≤ 100 ∧ e.key.size ≤ 100 ∧ e.val.size ≤ 100) := fewB_all
  clear hE hR hb1 HF
  generalize fewB L = fb at *
  cases fb with
  | false =>
    go_wp2_with fail
    refine (awake15_any _ hE1).mono ?_
    rintro e w2 ⟨rfl, hb2⟩
    go_wp2_with fail
    go_ret
    exact ⟨rfl, below_step HB1.out hb2⟩
  | true =>
    by_cases h100 : 100 < h.size
    · have h100z : (100 : Int) < (h.size : Int) := by omega
      go_wp2_with fail
      refine (awake15_any _ hE1).mono ?_
      rintro e w2 ⟨rfl, hb2⟩
      go_wp2_with fail
      go_ret
      exact ⟨rfl, below_step HB1.out hb2⟩
    · have h100z : ¬ (100 : Int) < (h.size : Int) := by omega
      have HK := Lib.hid (HFA.out rfl).2
      have hl60 := (HFA.out rfl).1
      have HT := Lib.hid (refIpText_any (a : Int) w1 (by omega) (by omega))
      clear HFA
      go_wp2_with fail
      refine HT.out.mono ?_
      rintro e w2 ⟨rfl, hb2⟩
      have hE2 := hE1.below hb2
      have hR2 := hR1.below hb2
      have HB2 : Hid (Below w.heap.size w w2) := below_step HB1.out hb2
      clear hE1 hR1 hb2 HT HB1
      rw [Int.toNat_natCast]
      have hkey := key_32 a
      have hkl : (Adr.preText a 32).length ≤ 2000 := by
        unfold Adr.preText
        have x := pre_text_len a (by omega)
        have y : (Lib.decDigits 32).length = 2 := by decide +kernel
        simp only [List.length_append, List.length_cons]
        omega
      obtain ⟨key, hkk⟩ : ∃ key : ByteArray, (⟨(Adr.preText a 32).toArray⟩ : ByteArray) = key := ⟨_, rfl⟩
      have hks : key.size ≤ 2000 := by rw [← hkk, size_mk]; exact hkl
      rw [hkk] at hkey
      have HKK : Hid (newR h a = ⟨h, 4, key, ⟨#[110, 101, 119]⟩⟩) := by show _ = _; unfold newR; rw [hkk]
      have hb0 : Below w2.heap.size w2 (w2.alloc (.cells #[] 29)) := (Below.refl _ _).alloc (Nat.le_refl _) _
      have hown0 := own_empty w2 w2.heap.size 29 (Nat.le_refl _)
      have hR2' := hR2.below hb0
      have hipl : (⟨(Adr.ipText a).toArray⟩ : ByteArray).size ≤ 1300 := by rw [size_mk]; exact pre_text_len a (by omega)
      generalize (⟨(Adr.ipText a).toArray⟩ : ByteArray) = ipt at hkey hipl ⊢
      clear hkk hkl
      go_wp2_with (at_builtin; first | (refine app_src rfl _ _ 26 rfl w2 (w2.alloc (.cells #[] 29)) 29 i0 _ 4 56 Tryd.underlying26 hi hz0 hz1 hz2 rfl (by decide) (by decide) hown0 hb0 rfl A L.length cap (ents L) rfl hR2' HNIL.out (ents_cells L) (by omega) ?_; intro v1 w3 hown1 hb3) | (go_must (refine app_new rfl _ _ 26 rfl w2 w3 29 i0 _ 4 56 Tryd.underlying26 hi hz0 hz1 hz2 rfl (by decide) (by decide) hown1 hb3 rfl 1 1 [.string h, .int .i64 4, .string key, .string ⟨#[110, 101, 119]⟩] rfl rfl (cells_one ⟨h, 4, key, ⟨#[110, 101, 119]⟩⟩) (by omega) ?_); intro v2 w4 hown2 hb4))
      have hown3 : w4.ownsRow w2.heap.size 29 4 v2 (L ++ [newR h a]).length (ents (L ++ [newR h a])) := by
        rw [HKK.out, ents_append, ents_one, List.length_append]
        simpa [Ent.cells] using hown2
      obtain ⟨A2, c2, rfl, g1, g2, hRm⟩ := rd_own hown3
      have HW4 : Hid (Below w.heap.size w w4) := below_step HB2.out hb4
      have HE4 := Lib.hid (hE2.below hb4)
      have HR4 := Lib.hid (hR2.below hb4)
      have HRM := Lib.hid hRm
      clear hown0 hown1 hown2 hown3 hRm hb0 hb3 hb4 hE2 hR2 hR2' HB2 hkey hipl
      go_loopw [47] (fun vi wr => ∃ k : Nat, k ≤ L.length ∧ vi = .int .i64 k ∧ Hid (∀ j (hj : j < L.length), j < k → L[j].key ≠ key) ∧ Hid (Below w4.heap.size w4 wr)) (fun vi _ => L.length - (intOf vi).toNat)
      case atStart => exact ⟨0, Nat.zero_le _, rfl, (show ∀ j (hj : j < L.length), j < 0 → L[j].key ≠ key from fun j _ hj => absurd hj (by omega)), Below.refl _ _⟩
      case round =>
        obtain ⟨k, hk, rfl, HN, HB⟩ := hrel
        by_cases hlt : k < L.length
        · obtain ⟨B, O, rfl, hab, hadd, x0, x1, x2, x3⟩ := (HR4.out.below HB.out).ent hlt
          have hst : Hid (L[k].key ≠ key → ∀ j (hj : j < L.length), j < k + 1 → L[j].key ≠ key) := fun hne j hj hjk => by
            by_cases e : j = k
            · subst e; exact hne
            · exact HN.out j hj (by omega)
          have hEr := HE4.out.below HB.out
          generalize L[k] = x at *
          by_cases hxk : x.key = key
          · have hx2 : (x.key.toList == key.toList) = true := by rw [bytes_beq]; exact decide_eq_true hxk
            clear hxk
            go_wp2_with fail
            refine (awake15_any _ (hEr.below ((Below.refl _ _).alloc (Nat.le_refl _) _))).mono ?_
            rintro e w5 ⟨rfl, hb5⟩
            have HF5 : Hid (Below w.heap.size w w5) := below_step HW4.out (HB.out.trans (((Below.refl _ _).alloc (Nat.le_refl _) _).trans (hb5.mono (by simp)) |>.mono HB.out.size))
            go_wp2_with fail
            go_ret
            exact ⟨rfl, HF5.out⟩
          · have hx2 : (x.key.toList == key.toList) = false := by rw [bytes_beq]; exact decide_eq_false hxk
            have HN2 := Lib.hid (hst.out hxk)
            clear hxk hst
            have HB2 : Hid (Below w4.heap.size w4 (wr.alloc (.cells #[.string x.host, .int .i64 x.kind, .string x.key, .string x.val] 29))) := HB.out.alloc HB.out.size _
            go_wp2_with fail
            go_roundw
            case rel => exact ⟨k + 1, by omega, by go_num, HN2, HB2⟩
            case measure => simp [intOf]; omega
        · obtain rfl : k = L.length := by omega
          have hne : ∀ e ∈ L, e.key ≠ (newR h a).key := by
            rw [HKK.out]
            intro e he
            obtain ⟨j, hj, rfl⟩ := List.getElem_of_mem he
            exact HN.out j hj hj
          have l1 := lk_one L h a (by omega) hne
          have l2 : a ≠ b → lk (L ++ [newR h a]) h (b : Int) = lk L h (b : Int) := lk_other L h a b (by omega) (by omega)
          have hkm : ∀ e ∈ L ++ [newR h a], e.key.size ≤ 100000000 := by
            intro e he
            rcases List.mem_append.1 he with he | he
            · have := (HK.out e he).2.1; omega
            · rw [List.mem_singleton.1 he, HKK.out]; show key.size ≤ _; omega
          have hE5 := HE4.out.below HB.out
          have hR5 := HR4.out.below HB.out
          have hM5 := HRM.out.below HB.out
          have HB5 : Hid (Below w.heap.size w wr) := below_step HW4.out HB.out
          have C1 := Lib.hid (lookup_any A2 c2 (L ++ [newR h a]) h (a : Int) wr hE5 hM5 g1 g2 hkm)
          rw [l1] at C1
          have C2 := Lib.hid (show ∀ W, Env W → Rd W 4 A2 (L ++ [newR h a]).length (ents (L ++ [newR h a])) → _ from fun W hW hr => lookup_any A2 c2 (L ++ [newR h a]) h (b : Int) W hW hr g1 g2 hkm)
          have C3 := Lib.hid (show ∀ W, Env W → Rd W 4 A L.length (ents L) → _ from fun W hW hr => lookup_any A cap L h (b : Int) W hW hr hcap HCM.out fun e he => by have := (HK.out e he).2.1; omega)
          have L2 := Lib.hid l2
          clear l1 l2 hkm hne HN HB HE4 HR4 HRM HW4 HK
          unfold maxLen at g2
          generalize L ++ [newR h a] = M at *
          go_wp2_with fail
          refine C1.out.mono ?_
          rintro e w6 ⟨rfl, hb6⟩
          have hE6 := hE5.below hb6
          have hR6 := hR5.below hb6
          have hM6 := hM5.below hb6
          have HB6 : Hid (Below w.heap.size w w6) := below_step HB5.out hb6
          clear hE5 hR5 hM5 hb6 C1 HB5
          rw [show decide ((0 : Int) ≤ ((32 : Int), (⟨#[110, 101, 119]⟩ : ByteArray)).1) = true from rfl]
          go_wp2_with fail
          refine (C2.out _ hE6 hM6).mono ?_
          rintro e w7 ⟨rfl, hb7⟩
          have hE7 := hE6.below hb7
          have hR7 := hR6.below hb7
          have HB7 : Hid (Below w.heap.size w w7) := below_step HB6.out hb7
          clear hE6 hR6 hM6 hb7 C2 HB6
          go_wp2_with fail
          refine (C3.out _ hE7 hR7).mono ?_
          rintro e w8 ⟨rfl, hb8⟩
          have hE8 := hE7.below hb8
          have HB8 : Hid (Below w.heap.size w w8) := below_step HB7.out hb8
          clear hE7 hR7 hb8 C3 HB7
          by_cases hab : a = b
          · subst hab
            clear L2
            generalize decide (0 ≤ (lk M h (a : Int)).1) = y1
            generalize decide (0 ≤ (lk L h (a : Int)).1) = y2
            generalize (lk M h (a : Int)).2 = s1
            generalize (lk L h (a : Int)).2 = s2
            go_wp2_with fail
            all_goals
              refine (awake15_any _ hE8).mono ?_
              rintro e w9 ⟨rfl, hb9⟩
              go_wp2_with fail
              go_ret
              exact ⟨by first | rfl | simp, below_step HB8.out hb9⟩
          · rw [L2.out hab]
            have habz : ((a : Int) == (b : Int)) = false := by rw [beq_eq_false_iff_ne]; omega
            have habz2 : ¬ (a : Int) = (b : Int) := by omega
            generalize decide (0 ≤ (lk L h (b : Int)).1) = y2
            generalize (lk L h (b : Int)).2 = s2
            have hbb : (s2.toList == s2.toList) = true := beq_self_eq_true _
            have hyy : (y2 == y2) = true := beq_self_eq_true _
            clear L2 hab
            go_wp2_with fail
            all_goals
              refine (awake15_any _ hE8).mono ?_
              rintro e w9 ⟨rfl, hb9⟩
              go_wp2_with fail
              go_ret
              exact ⟨by first | rfl | simp, below_step HB8.out hb9⟩
end Go.Proofs.YtlojeeakjgalpaaDoor
