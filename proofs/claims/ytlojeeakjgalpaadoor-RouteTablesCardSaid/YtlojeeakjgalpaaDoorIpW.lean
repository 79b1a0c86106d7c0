/- Walks: an address of a text: the program's and the reference's. -/
import Derived.Test.YtlojeeakjgalpaaDoorLibW
namespace Adr
open Go
def ipTo (L : List (List UInt8)) (k : Nat) : Int := (L.take k).foldl step 0
theorem ipTo_zero (L : List (List UInt8)) : ipTo L 0 = 0 := by unfold ipTo; rw [List.take_zero]; rfl
theorem ipTo_succ (L : List (List UInt8)) (k : Nat) (h : k < L.length) : ipTo L (k + 1) = step (ipTo L k) L[k] := by
  unfold ipTo
  rw [List.take_succ_eq_append_getElem h, List.foldl_append]; rfl
theorem step_neg (n : Int) (w : List UInt8) (h : n < 0) : step n w = -1 := by unfold step; rw [if_pos (.inl h)]
theorem fold_neg (L : List (List UInt8)) (n : Int) (h : n < 0) : L.foldl step n < 0 := by
  induction L generalizing n with
  | nil => exact h
  | cons a r ih => rw [List.foldl_cons]; exact ih _ (by rw [step_neg n a h]; decide)
theorem ipTo_stop (L : List (List UInt8)) (k : Nat) (h : ipTo L k < 0) : ipTo L L.length < 0 := by
  unfold ipTo at h ⊢
  rw [List.take_length]
  have e := List.take_append_drop k L
  rw [← e, List.foldl_append]
  exact fold_neg _ _ h
theorem ip_not (l : List UInt8) (h : (parts 46 l).length ≠ 4) : ip l = -1 := by
  unfold ip
  split
  · rename_i e; rw [e] at h; simp at h
  · rfl
theorem ip_to (l : List UInt8) (h : (parts 46 l).length = 4) : ip l = ipTo (parts 46 l) 4 := by
  unfold ip ipTo
  generalize parts 46 l = L at h
  match L, h with
  | [a, b, c, d], _ => rfl
theorem ipTo_bd (L : List (List UInt8)) (k : Nat) (hk : k ≤ L.length) (h4 : k ≤ 3) (h0 : 0 ≤ ipTo L k) : ipTo L k < 16777216 := by
  have s : ∀ j, j < L.length → 0 ≤ ipTo L (j + 1) → 0 ≤ ipTo L j ∧ ipTo L (j + 1) ≤ 256 * ipTo L j + 255 := by
    intro j hj h1
    rw [ipTo_succ L j hj] at h1 ⊢
    have := step_ok h1
    omega
  have h00 := ipTo_zero L
  rcases Nat.lt_or_ge 2 k with h | h
  · obtain rfl : k = 3 := by omega
    have a := s 2 (by omega) h0; have b := s 1 (by omega) a.1; have c := s 0 (by omega) b.1
    simp only [Nat.zero_add, Nat.reduceAdd] at a b c; omega
  · rcases Nat.lt_or_ge 1 k with h' | h'
    · obtain rfl : k = 2 := by omega
      have b := s 1 (by omega) h0; have c := s 0 (by omega) b.1
      simp only [Nat.zero_add, Nat.reduceAdd] at b c; omega
    · rcases Nat.lt_or_ge 0 k with h2 | h2
      · obtain rfl : k = 1 := by omega
        have c := s 0 (by omega) h0
        simp only [Nat.zero_add] at c; omega
      · obtain rfl : k = 0 := by omega
        omega
theorem step_yes {n : Int} {w : List UInt8} (h0 : 0 ≤ n) (h : numIn w 0 255 = true) : step n w = 256 * n + num w := by
  have := (numIn_iff _ _ _).1 h
  unfold step; rw [if_neg (by omega)]
theorem step_no {n : Int} {w : List UInt8} (h : numIn w 0 255 = false) : step n w = -1 := by
  unfold step; rw [if_pos]
  rw [Bool.eq_false_iff] at h
  have h2 : ¬ (0 ≤ num w ∧ 0 ≤ num w ∧ num w ≤ 255) := fun a => h ((numIn_iff w 0 255).2 a)
  omega
theorem or_add (a b : Int) (ha : 0 ≤ a) (ha2 : a < 16777216) (hb : 0 ≤ b) (hb2 : b ≤ 255) : bits .or .i64 (a * 256) b = 256 * a + b := by
  obtain ⟨x, rfl⟩ := Int.eq_ofNat_of_zero_le ha
  obtain ⟨y, rfl⟩ := Int.eq_ofNat_of_zero_le hb
  have e : ((x : Int) * 256) = ((256 * x : Nat) : Int) := by omega
  have hle : 256 * x ||| y = 256 * x + y := by
    have := Nat.two_pow_add_eq_or_of_lt (i := 8) (b := y) (by omega) x
    rw [show (2 : Nat) ^ 8 = 256 by decide] at this
    exact this.symm
  rw [e]
  show IntKind.i64.wrap ((BitVec.ofInt 64 ((256 * x : Nat) : Int) ||| BitVec.ofInt 64 (y : Int)).toNat : Int) = _
  rw [BitVec.toNat_or, ofInt_i64 _ (by omega), ofInt_i64 _ (by omega), hle, wrap_nat _ (by omega)]; omega
end Adr
namespace Go.Proofs.YtlojeeakjgalpaaDoor
open Go.RowKit

/-- A number that is there, or (0, false). -/
def okRet (n : Int) : Value := .tuple #[.int .i64 (max n 0), .bool (decide (0 ≤ n))]
theorem okRet_yes {n : Int} (h : 0 ≤ n) : okRet n = .tuple #[.int .i64 n, .bool true] := by
  unfold okRet; rw [show max n 0 = n by omega]; simp [h]
theorem okRet_no {n : Int} (h : n < 0) : okRet n = .tuple #[.int .i64 0, .bool false] := by
  unfold okRet; rw [show max n 0 = 0 by omega]; simp; omega

set_option maxHeartbeats 1000000 in
set_option maxRecDepth 100000 in
theorem ip_any (s : ByteArray) (w : World) (hE : Env w) (hs : s.size ≤ 100000000) :
    Calls Tryd.prog 27 #[.string s] w fun e w' => e = .returned (okRet (Adr.ip s.data.toList)) ∧ Below w.heap.size w w' := by
  go_enter Tryd.func27, Tryd.ntmps27
  go_wp2_with fail
  refine (split_any s 46 _ hE hs).mono ?_
  rintro e w1 ⟨A, cap, rfl, hc1, hc2, hR, hb1⟩
  have hpl := Adr.parts_len 46 s.data.toList
  have hps := Adr.parts_short 46 s.data.toList
  rw [size_data] at hpl hps
  by_cases h4 : (Adr.parts 46 s.data.toList).length = 4
  · have HI := Lib.hid (Adr.ip_to _ h4)
    generalize Adr.parts 46 s.data.toList = L at *
    have hE1 := hE.below hb1
    have H4 := Lib.hid h4
    rw [h4] at hR hc1 ⊢
    clear h4 hpl
    go_wp2_with fail
    go_loopw [5, 17] (fun o i wr => ∃ k : Nat, k ≤ 4 ∧ i = .int .i64 k ∧ o = .int .i64 (Adr.ipTo L k) ∧ 0 ≤ Adr.ipTo L k ∧ Below w1.heap.size w1 wr) (fun _ i _ => 4 - (intOf i).toNat)
    case atStart => exact ⟨0, by omega, rfl, by rw [Adr.ipTo_zero], by rw [Adr.ipTo_zero]; decide, Below.refl _ _⟩
    case round =>
      obtain ⟨k, hk, rfl, rfl, hn, hbr⟩ := hrel
      by_cases hk4 : k < 4
      · have hkL : k < L.length := by rw [H4.out]; exact hk4
        have hsuc := Adr.ipTo_succ L k hkL
        have hstop := Adr.ipTo_stop L (k + 1)
        have hbd := Adr.ipTo_bd L k (by omega) (by omega) hn
        have hget := strs_get hkL
        have hshort := hps L[k] (List.getElem_mem hkL)
        generalize L[k] = p at *
        generalize Adr.ipTo L k = n at *
        obtain ⟨ad, rfl, had, hcell⟩ := (hR.below hbr).cell hget
        clear hget
        cases hin : Adr.numIn p 0 255 with
        | true =>
          have hr := (Adr.numIn_iff _ _ _).1 hin
          have hst := Adr.step_yes hn hin
          have HR := Lib.hid (numRet_yes (s := ⟨p.toArray⟩) (by rw [data_mk]; exact hin))
          rw [hst] at hsuc
          have Hsuc := Lib.hid hsuc
          have Hor := Lib.hid (Adr.or_add n (Adr.num p) hn hbd hr.1 hr.2.2)
          clear hst hsuc hin hstop
          go_wp2_with fail
          refine (num_any ⟨p.toArray⟩ 0 255 _ (hE1.below hbr) (by rw [size_mk]; omega)).mono ?_
          rintro e w3 ⟨rfl, hb3⟩
          rw [HR.out]
          go_wp2_with fail
          go_roundw
          case rel => exact ⟨k + 1, by omega, by go_num, by rw [Hor.out, Hsuc.out], by rw [Hsuc.out]; omega, below_step hbr hb3⟩
          case measure => simp [intOf]; omega
        | false =>
          have hst := Adr.step_no (n := n) hin
          have HR := Lib.hid (numRet_no (s := ⟨p.toArray⟩) (by rw [data_mk]; exact hin))
          rw [hst] at hsuc
          have HF := Lib.hid (okRet_no (n := Adr.ip s.data.toList) (by
            have := hstop (by rw [hsuc]; decide)
            rw [HI.out, ← H4.out]; exact this))
          clear hst hsuc hin hstop
          go_wp2_with fail
          refine (num_any ⟨p.toArray⟩ 0 255 _ (hE1.below hbr) (by rw [size_mk]; omega)).mono ?_
          rintro e w3 ⟨rfl, hb3⟩
          rw [HR.out]
          go_wp2_with fail
          go_ret2
          exact ⟨by rw [HF.out]; rfl, below_step hb1 (below_step hbr hb3)⟩
      · have hk4' : 4 ≤ k := by omega
        have HF := Lib.hid (show okRet (Adr.ip s.data.toList) = .tuple #[.int .i64 (Adr.ipTo L k), .bool true] by
          obtain rfl : k = 4 := by omega
          rw [HI.out]; exact okRet_yes hn)
        clear hk4
        go_wp2_with fail
        go_ret2
        exact ⟨by rw [HF.out]; rfl, below_step hb1 hbr⟩
  · have HF := Lib.hid (okRet_no (n := Adr.ip s.data.toList) (by rw [Adr.ip_not _ h4]; decide))
    have hne : (((Adr.parts 46 s.data.toList).length : Int) == 4) = false := by rw [beq_eq_false_iff_ne]; omega
    clear h4
    go_wp2_with fail
    go_ret2
    exact ⟨by rw [HF.out]; rfl, hb1⟩

/-- The reference's address. -/
theorem refIp_any (s : ByteArray) (w : World) (hs : s.size ≤ 100000000) :
    Calls Tryd.prog 32 #[.string s] w fun e w' => e = .returned (.int .i64 (Adr.ip s.data.toList)) ∧ Below w.heap.size w w' := by
  go_enter Tryd.func32, Tryd.ntmps32
  go_wp2_with fail
  refine (parts_any s 46 _ hs).mono ?_
  rintro e w1 ⟨A, cap, rfl, hc1, hc2, hR, hb1⟩
  have hpl := Adr.parts_len 46 s.data.toList
  have hps := Adr.parts_short 46 s.data.toList
  rw [size_data] at hpl hps
  by_cases h4 : (Adr.parts 46 s.data.toList).length = 4
  · have HI := Lib.hid (Adr.ip_to _ h4)
    generalize Adr.parts 46 s.data.toList = L at *
    have H4 := Lib.hid h4
    rw [h4] at hR hc1 ⊢
    clear h4 hpl
    go_wp2_with fail
    go_loopw [4, 5, 6] (fun o i _ wr => ∃ k : Nat, k ≤ 4 ∧ i = .int .i64 k ∧ o = .int .i64 (Adr.ipTo L k) ∧ 0 ≤ Adr.ipTo L k ∧ w1 = wr) (fun _ i _ _ => 4 - (intOf i).toNat)
    case atStart => exact ⟨0, by omega, rfl, by rw [Adr.ipTo_zero], by rw [Adr.ipTo_zero]; decide, rfl⟩
    case round =>
      obtain ⟨k, hk, rfl, rfl, hn, rfl⟩ := hrel
      by_cases hk4 : k < 4
      · have hkL : k < L.length := by rw [H4.out]; exact hk4
        have hsuc := Adr.ipTo_succ L k hkL
        have hstop := Adr.ipTo_stop L (k + 1)
        have hbd := Adr.ipTo_bd L k (by omega) (by omega) hn
        have hget := strs_get hkL
        have hshort := hps L[k] (List.getElem_mem hkL)
        generalize L[k] = p at *
        generalize Adr.ipTo L k = n at *
        obtain ⟨ad, rfl, had, hcell⟩ := hR.cell hget
        clear hget
        have hlt := Adr.num_lt p
        have hge := Adr.num_ge p
        by_cases hin : 0 ≤ Adr.num p ∧ Adr.num p ≤ 255
        · have hst := Adr.step_yes (w := p) hn ((Adr.numIn_iff _ _ _).2 ⟨hin.1, hin.1, hin.2⟩)
          obtain ⟨hi1, hi2⟩ := hin
          rw [hst] at hsuc
          have Hsuc := Lib.hid hsuc
          clear hst hsuc hstop
          go_wp2_with fail
          refine (refNum_any ⟨p.toArray⟩ _ (by rw [size_mk]; unfold maxLen; omega)).mono ?_
          rintro e w3 ⟨rfl, rfl⟩
          rw [data_mk]
          go_wp2_with fail
          go_roundw
          case rel => exact ⟨k + 1, by omega, by go_num, by rw [Hsuc.out], by rw [Hsuc.out]; omega, by trivial⟩
          case measure => simp [intOf]; omega
        · have hst := Adr.step_no (n := n) (Adr.numIn_not (l := p) (least := 0) (most := 255) (by omega))
          rw [hst] at hsuc
          have HF := Lib.hid (show Adr.ip s.data.toList = -1 by
            have := hstop (by rw [hsuc]; decide)
            have h2 := Adr.ip_ge s.data.toList
            rw [HI.out, ← H4.out] at h2 ⊢; omega)
          have hcase : Adr.num p < 0 ∨ 255 < Adr.num p := by omega
          clear hst hsuc hin hstop
          rcases hcase with hcase | hcase
          all_goals
            go_wp2_with fail
            refine (refNum_any ⟨p.toArray⟩ _ (by rw [size_mk]; unfold maxLen; omega)).mono ?_
            rintro e w3 ⟨rfl, rfl⟩
            rw [data_mk]
            go_wp2_with fail
            go_ret
            exact ⟨by rw [HF.out]; rfl, hb1⟩
      · have hk4' : 4 ≤ k := by omega
        have HF := Lib.hid (show Adr.ip s.data.toList = Adr.ipTo L k by
          obtain rfl : k = 4 := by omega
          rw [HI.out])
        clear hk4
        go_wp2_with fail
        go_ret
        exact ⟨by rw [HF.out]; rfl, hb1⟩
  · have HF := Lib.hid (Adr.ip_not _ h4)
    have hne : (((Adr.parts 46 s.data.toList).length : Int) == 4) = false := by rw [beq_eq_false_iff_ne]; omega
    clear h4
    go_wp2_with fail
    go_ret
    exact ⟨by rw [HF.out]; rfl, hb1⟩
end Go.Proofs.YtlojeeakjgalpaaDoor
