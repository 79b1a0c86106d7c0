/- A walk: the law RoutePermits. -/
import Derived.Test.YtlojeeakjgalpaaDoorApp
import Derived.Deep.DeepMust
namespace Go.Proofs.YtlojeeakjgalpaaDoor
open Go Go.RowKit Rte

theorem rules_len {L : List Ent} {h : ByteArray} {R : List Nat} (hR : RulesOf L h R) : R.length = (spots L h).length := hR.1.length_eq
theorem beq_bytes {a b : ByteArray} : (a.toList == b.toList) = decide (a = b) := by
  by_cases h : a = b
  · subst h; simp
  · rw [decide_eq_false h]; simpa using bytes_ne h

set_option maxHeartbeats 4000000 in
set_option maxRecDepth 100000 in
theorem routePermits_any (A : Option Addr) (cap : Nat) (L : List Ent) (h : ByteArray) (a0 b0 : Int) (p : Bool) (w : World) (hE : Env w) (hR : Rd w 4 A L.length (ents L)) (hcap : L.length ≤ cap) (hcm : cap ≤ maxLen) (hnil : A = none → cap = 0) (hh : h.size ≤ maxLen) (ha : 0 ≤ a0 ∧ a0 ≤ 4294967295) (hb : 0 ≤ b0 ∧ b0 ≤ 4294967295) :
    Calls Tryd.prog 9 #[.slice A L.length cap, .string h, .int .u32 a0, .int .u32 b0, .bool p] w fun e w' => e = .returned (.bool true) ∧ Below w.heap.size w w' := by
  obtain ⟨i0, hi, hz0, hz1, hz2⟩ := info_parts info_ent
  obtain ⟨ha0, ha1⟩ := ha
  obtain ⟨hb0, hb1⟩ := hb
  have HF := Lib.hid (few_any A cap L w hR hcap hcm)
  have HCM := Lib.hid hcm
  have HNIL := Lib.hid hnil
  unfold maxLen at hcm hh
  clear hnil
  go_enter Tryd.func9, Tryd.ntmps9
  go_wp2_with fail
  refine HF.out.mono ?_
  rintro e w1 ⟨rfl, hb1⟩
  have hE1 := hE.below hb1
  have hR1 := hR.below hb1
  have HB1 := Lib.hid hb1
  have HFA : Hid (fewB L = true → L.length ≤ 60 ∧ ∀ e ∈ L, e.host.size ≤ 100 ∧ e.key.size ≤ 100 ∧ e.val.size ≤ 100) := fewB_all
  clear hE hR hb1 HF
  generalize fewB L = fb at *
  cases fb with
  | false =>
    go_wp2_with fail
    refine (awake15_any _ hE1).mono ?_
    rintro e w2 ⟨rfl, hb2⟩
    go_wp2_with fail
    go_ret
    exact ⟨rfl, below_step HB1.out hb2⟩
  | true =>
    by_cases h100 : 100 < h.size
    · have h100z : (100 : Int) < (h.size : Int) := by omega
      go_wp2_with fail
      refine (awake15_any _ hE1).mono ?_
      rintro e w2 ⟨rfl, hb2⟩
      go_wp2_with fail
      go_ret
      exact ⟨rfl, below_step HB1.out hb2⟩
    · have h100z : ¬ (100 : Int) < (h.size : Int) := by omega
      have HK := Lib.hid (HFA.out rfl).2
      have hl60 := (HFA.out rfl).1
      have HE1 := Lib.hid hE1
      have HR1 := Lib.hid hR1
      clear HFA hE1 hR1
      go_wp2
      go_loopw [26] (fun vi wr => ∃ k : Nat, k ≤ L.length ∧ vi = .int .i64 k ∧ Hid (∀ j (hj : j < L.length), j < k → L[j].key ≠ (⟨#[49]⟩ : ByteArray)) ∧ Hid (Below w1.heap.size w1 wr)) (fun vi _ => L.length - (intOf vi).toNat)
      case atStart => exact ⟨0, Nat.zero_le _, rfl, (show ∀ j (hj : j < L.length), j < 0 → L[j].key ≠ (⟨#[49]⟩ : ByteArray) from fun j _ hj => absurd hj (by omega)), Below.refl _ _⟩
      case round =>
        obtain ⟨k, hk, rfl, HN, HB⟩ := hrel
        by_cases hlt : k < L.length
        · obtain ⟨B, O, rfl, hab, hadd, x0, x1, x2, x3⟩ := (HR1.out.below HB.out).ent hlt
          have hst : Hid (L[k].key ≠ (⟨#[49]⟩ : ByteArray) → ∀ j (hj : j < L.length), j < k + 1 → L[j].key ≠ (⟨#[49]⟩ : ByteArray)) := fun hne j hj hjk => by
            by_cases e : j = k
            · subst e; exact hne
            · exact HN.out j hj (by omega)
          have hEr := HE1.out.below HB.out
          generalize L[k] = x at *
          have hkk : (x.key.toList == [49]) = decide (x.key = (⟨#[49]⟩ : ByteArray)) := by
            have := beq_bytes (a := x.key) (b := (⟨#[49]⟩ : ByteArray))
            rwa [Lib.toList_data ⟨#[49]⟩] at this
          by_cases hxk : x.key = (⟨#[49]⟩ : ByteArray)
          · have hx2 : (x.key.toList == [49]) = true := by rw [hkk]; exact decide_eq_true hxk
            clear hxk hkk
            go_wp2_with fail
            refine (awake15_any _ (hEr.below ((Below.refl _ _).alloc (Nat.le_refl _) _))).mono ?_
            rintro e w5 ⟨rfl, hb5⟩
            have HF5 : Hid (Below w.heap.size w w5) := below_step HB1.out (HB.out.trans (((Below.refl _ _).alloc (Nat.le_refl _) _).trans (hb5.mono (by simp)) |>.mono HB.out.size))
            go_wp2_with fail
            go_ret
            exact ⟨rfl, HF5.out⟩
          · have hx2 : (x.key.toList == [49]) = false := by rw [hkk]; exact decide_eq_false hxk
            have HN2 := Lib.hid (hst.out hxk)
            clear hxk hst hkk
            have HB2 : Hid (Below w1.heap.size w1 (wr.alloc (.cells #[.string x.host, .int .i64 x.kind, .string x.key, .string x.val] 29))) := HB.out.alloc HB.out.size _
            go_wp2_with fail
            go_roundw
            case rel => exact ⟨k + 1, by omega, by go_num, HN2, HB2⟩
            case measure => simp [intOf]; omega
        · obtain rfl : k = L.length := by omega
          have HNE : Hid (∀ e ∈ L, e.key ≠ (⟨#[49]⟩ : ByteArray)) := by
            intro e he
            obtain ⟨j, hj, rfl⟩ := List.getElem_of_mem he
            exact HN.out j hj hj
          have hE2 := HE1.out.below HB.out
          have hR2 := HR1.out.below HB.out
          have HB2 : Hid (Below w.heap.size w wr) := below_step HB1.out HB.out
          have hb0 : Below wr.heap.size wr (wr.alloc (.cells #[] 29)) := (Below.refl _ _).alloc (Nat.le_refl _) _
          have hown0 := own_empty wr wr.heap.size 29 (Nat.le_refl _)
          have hR2' := hR2.below hb0
          clear HN HB HE1 HR1 HB1
          cases p with
          | true =>
            go_wp2_with (at_builtin; first | (refine app_src rfl _ _ 26 rfl wr (wr.alloc (.cells #[] 29)) 29 i0 _ 4 56 Tryd.underlying26 hi hz0 hz1 hz2 rfl (by decide) (by decide) hown0 hb0 rfl A L.length cap (ents L) rfl hR2' HNIL.out (ents_cells L) (by omega) ?_; intro v1 w3 hown1 hb3) | (go_must (refine app_new rfl _ _ 26 rfl wr w3 29 i0 _ 4 56 Tryd.underlying26 hi hz0 hz1 hz2 rfl (by decide) (by decide) hown1 hb3 rfl 1 1 [.string h, .int .i64 5, .string ⟨#[49]⟩, .string (newP h true).val] rfl rfl (cells_one (newP h true)) (by omega) ?_); intro v2 w4 hown2 hb4))
            have hown3 : w4.ownsRow wr.heap.size 29 4 v2 (L ++ [newP h true]).length (ents (L ++ [newP h true])) := by
              rw [ents_append, ents_one, List.length_append]
              simpa [Ent.cells, newP] using hown2
            obtain ⟨A2, c2, rfl, g1, g2, hRm⟩ := rd_own hown3
            have HB4 : Hid (Below w.heap.size w w4) := below_step HB2.out hb4
            have hE4 := hE2.below hb4
            have hR4 := hR2.below hb4
            have hml : (L ++ [newP h true]).length ≤ 100000000 := by simp; omega
            have hkm : ∀ e ∈ L ++ [newP h true], e.key.size ≤ 100000000 ∧ e.val.size ≤ 100000000 := by
              intro e he
              rcases List.mem_append.1 he with he | he
              · have := (HK.out e he).2; omega
              · rw [List.mem_singleton.1 he]
                refine ⟨by show (1 : Nat) ≤ _; omega, ?_⟩
                exact of_decide_eq_true (by kernel_rfl)
            have C1 := Lib.hid (permitF_any A2 c2 (L ++ [newP h true]) h a0 b0 w4 hE4 hRm g1 g2 hml hkm)
            rw [permF_one L h true a0 b0 HNE.out] at C1
            have C2 := Lib.hid (show ∀ W, Env W → Rd W 4 A2 (L ++ [newP h true]).length (ents (L ++ [newP h true])) → _ from fun W hW hr => rules_any A2 c2 (L ++ [newP h true]) h W hW hr g1 g2 hml hkm)
            have C3 := Lib.hid (show ∀ W, Env W → Rd W 4 A L.length (ents L) → _ from fun W hW hr => rules_any A cap L h W hW hr hcap HCM.out (by omega) fun e he => by have := (HK.out e he).2; omega)
            have HSP : Hid ((spots (L ++ [newP h true]) h).length = 1 + (spots L h).length) := spots_snoc L h (newP h true) (newP_rule h true)
            unfold maxLen at g2
            clear hown0 hown1 hown2 hown3 hb0 hb3 hb4 hE2 hR2 hR2' HB2 hml hkm HNE HK
            generalize L ++ [newP h true] = M at *
            go_wp2_with fail
            refine C1.out.mono ?_
            rintro e w5 ⟨rfl, hb5⟩
            have hE5 := hE4.below hb5
            have hR5 := hR4.below hb5
            have hM5 := hRm.below hb5
            have HB5 : Hid (Below w.heap.size w w5) := below_step HB4.out hb5
            clear hE4 hR4 hRm hb5 C1 HB4
            go_wp2_with fail
            refine (C2.out _ hE5 hM5).mono ?_
            rintro e w6 ⟨A6, c6, R6, rfl, n1, n2, -, hRO6, hb6⟩
            have hE6 := hE5.below hb6
            have hR6 := hR5.below hb6
            have HB6 : Hid (Below w.heap.size w w6) := below_step HB5.out hb6
            have HL6 := Lib.hid (rules_len hRO6)
            clear hE5 hR5 hM5 hb6 C2 HB5 hRO6
            go_wp2_with fail
            refine (C3.out _ hE6 hR6).mono ?_
            rintro e w7 ⟨A7, c7, R7, rfl, m1, m2, -, hRO7, hb7⟩
            have hE7 := hE6.below hb7
            have HB7 : Hid (Below w.heap.size w w7) := below_step HB6.out hb7
            have hl7 := rules_len hRO7
            have hlen : (R6.length : Int) = 1 + (R7.length : Int) := by
              have := HL6.out
              have := HSP.out
              omega
            have hlenb : ((R6.length : Int) == 1 + (R7.length : Int)) = true := by rw [beq_iff_eq]; exact hlen
            have hr7 : R7.length ≤ 100 := by
              rw [hl7]
              have := spotsTo_len L h L.length
              unfold spots; omega
            clear hE6 hR6 hb7 C3 HB6 hRO7 hl7 HL6 HSP hlen
            generalize R6.length = q6 at *
            generalize R7.length = q7 at *
            go_wp2_with fail
            refine (awake15_any _ hE7).mono ?_
            rintro e w8 ⟨rfl, hb8⟩
            have HB8 : Hid (Below w.heap.size w w8) := below_step HB7.out hb8
            clear hb8 HB7
            go_wp2_with fail
            go_ret
            exact ⟨by first | rfl | simp, HB8.out⟩
          | false =>
            go_wp2_with (at_builtin; first | (refine app_src rfl _ _ 26 rfl wr (wr.alloc (.cells #[] 29)) 29 i0 _ 4 56 Tryd.underlying26 hi hz0 hz1 hz2 rfl (by decide) (by decide) hown0 hb0 rfl A L.length cap (ents L) rfl hR2' HNIL.out (ents_cells L) (by omega) ?_; intro v1 w3 hown1 hb3) | (go_must (refine app_new rfl _ _ 26 rfl wr w3 29 i0 _ 4 56 Tryd.underlying26 hi hz0 hz1 hz2 rfl (by decide) (by decide) hown1 hb3 rfl 1 1 [.string h, .int .i64 5, .string ⟨#[49]⟩, .string (newP h false).val] rfl rfl (cells_one (newP h false)) (by omega) ?_); intro v2 w4 hown2 hb4))
            have hown3 : w4.ownsRow wr.heap.size 29 4 v2 (L ++ [newP h false]).length (ents (L ++ [newP h false])) := by
              rw [ents_append, ents_one, List.length_append]
              simpa [Ent.cells, newP] using hown2
            obtain ⟨A2, c2, rfl, g1, g2, hRm⟩ := rd_own hown3
            have HB4 : Hid (Below w.heap.size w w4) := below_step HB2.out hb4
            have hE4 := hE2.below hb4
            have hR4 := hR2.below hb4
            have hml : (L ++ [newP h false]).length ≤ 100000000 := by simp; omega
            have hkm : ∀ e ∈ L ++ [newP h false], e.key.size ≤ 100000000 ∧ e.val.size ≤ 100000000 := by
              intro e he
              rcases List.mem_append.1 he with he | he
              · have := (HK.out e he).2; omega
              · rw [List.mem_singleton.1 he]
                refine ⟨by show (1 : Nat) ≤ _; omega, ?_⟩
                exact of_decide_eq_true (by kernel_rfl)
            have C1 := Lib.hid (permitF_any A2 c2 (L ++ [newP h false]) h a0 b0 w4 hE4 hRm g1 g2 hml hkm)
            rw [permF_one L h false a0 b0 HNE.out] at C1
            have C2 := Lib.hid (show ∀ W, Env W → Rd W 4 A2 (L ++ [newP h false]).length (ents (L ++ [newP h false])) → _ from fun W hW hr => rules_any A2 c2 (L ++ [newP h false]) h W hW hr g1 g2 hml hkm)
            have C3 := Lib.hid (show ∀ W, Env W → Rd W 4 A L.length (ents L) → _ from fun W hW hr => rules_any A cap L h W hW hr hcap HCM.out (by omega) fun e he => by have := (HK.out e he).2; omega)
            have HSP : Hid ((spots (L ++ [newP h false]) h).length = 1 + (spots L h).length) := spots_snoc L h (newP h false) (newP_rule h false)
            unfold maxLen at g2
            clear hown0 hown1 hown2 hown3 hb0 hb3 hb4 hE2 hR2 hR2' HB2 hml hkm HNE HK
            generalize L ++ [newP h false] = M at *
            go_wp2_with fail
            refine C1.out.mono ?_
            rintro e w5 ⟨rfl, hb5⟩
            have hE5 := hE4.below hb5
            have hR5 := hR4.below hb5
            have hM5 := hRm.below hb5
            have HB5 : Hid (Below w.heap.size w w5) := below_step HB4.out hb5
            clear hE4 hR4 hRm hb5 C1 HB4
            go_wp2_with fail
            refine (C2.out _ hE5 hM5).mono ?_
            rintro e w6 ⟨A6, c6, R6, rfl, n1, n2, -, hRO6, hb6⟩
            have hE6 := hE5.below hb6
            have hR6 := hR5.below hb6
            have HB6 : Hid (Below w.heap.size w w6) := below_step HB5.out hb6
            have HL6 := Lib.hid (rules_len hRO6)
            clear hE5 hR5 hM5 hb6 C2 HB5 hRO6
            go_wp2_with fail
            refine (C3.out _ hE6 hR6).mono ?_
            rintro e w7 ⟨A7, c7, R7, rfl, m1, m2, -, hRO7, hb7⟩
            have hE7 := hE6.below hb7
            have HB7 : Hid (Below w.heap.size w w7) := below_step HB6.out hb7
            have hl7 := rules_len hRO7
            have hlen : (R6.length : Int) = 1 + (R7.length : Int) := by
              have := HL6.out
              have := HSP.out
              omega
            have hlenb : ((R6.length : Int) == 1 + (R7.length : Int)) = true := by rw [beq_iff_eq]; exact hlen
            have hr7 : R7.length ≤ 100 := by
              rw [hl7]
              have := spotsTo_len L h L.length
              unfold spots; omega
            clear hE6 hR6 hb7 C3 HB6 hRO7 hl7 HL6 HSP hlen
            generalize R6.length = q6 at *
            generalize R7.length = q7 at *
            go_wp2_with fail
            refine (awake15_any _ hE7).mono ?_
            rintro e w8 ⟨rfl, hb8⟩
            have HB8 : Hid (Below w.heap.size w w8) := below_step HB7.out hb8
            clear hb8 HB7
            go_wp2_with fail
            go_ret
            exact ⟨by first | rfl | simp, HB8.out⟩
end Go.Proofs.YtlojeeakjgalpaaDoor
