/- Walks: the laws AddrNums, AddrFore, AddrTexts. -/
import Derived.Test.YthnbhdphelhcfaaDoorAwk
namespace Go.Proofs.YthnbhdphelhcfaaDoor
open Go.RowKit

theorem numIn_dec (k : Int) (h0 : 0 ≤ k) (h : k < 10000000000) : Adr.num (Lib.decDigits k.toNat) = k := by
  rw [Adr.num_dec k.toNat (by omega)]; omega

set_option maxHeartbeats 2000000 in
set_option maxRecDepth 100000 in
theorem addrNums_any (n least most : Int) (w : World) (hE : Env w) (hn : 0 ≤ n ∧ n ≤ 18446744073709551615) :
    Calls Tryd.prog 8 #[.int .u64 n, .int .i64 least, .int .i64 most] w fun e w' => e = .returned (.bool true) ∧ Below w.heap.size w w' := by
  obtain ⟨hn0, hn1⟩ := hn
  have hk0 : 0 ≤ n % 10000000000 := by omega
  have hk1 : n % 10000000000 < 10000000000 := by omega
  have HD := Lib.hid (show ∀ W, _ from fun W => digits_any (n % 10000000000) W (by omega) (by omega) (by omega))
  have hnum := numIn_dec (n % 10000000000) hk0 hk1
  have hlen := dec_len (n % 10000000000).toNat
  have HN := Lib.hid (show ∀ W, Env W → _ from fun W hW => num_any ⟨(Lib.decDigits (n % 10000000000).toNat).toArray⟩ least most W hW (by rw [size_mk]; omega))
  have hyes := fun h => numRet_yes (s := ⟨(Lib.decDigits (n % 10000000000).toNat).toArray⟩) (least := least) (most := most) (by rw [data_mk]; exact h)
  have hno := fun h => numRet_no (s := ⟨(Lib.decDigits (n % 10000000000).toNat).toArray⟩) (least := least) (most := most) (by rw [data_mk]; exact h)
  rw [data_mk, hnum] at hyes
  have hiff := Adr.numIn_iff (Lib.decDigits (n % 10000000000).toNat) least most
  have hnot := Adr.numIn_not (l := Lib.decDigits (n % 10000000000).toNat) (least := least) (most := most)
  rw [hnum] at hiff hnot
  clear hnum hlen
  generalize numRet ⟨(Lib.decDigits (n % 10000000000).toNat).toArray⟩ least most = R at *
  generalize Lib.decDigits (n % 10000000000).toNat = L at *
  have hcase : (least ≤ n % 10000000000 ∧ n % 10000000000 ≤ most) ∨ n % 10000000000 < least ∨ (least ≤ n % 10000000000 ∧ most < n % 10000000000) := by omega
  rcases hcase with ⟨h1, h2⟩ | h1 | ⟨h1, h2⟩
  · have HR := Lib.hid (hyes (hiff.2 ⟨hk0, h1, h2⟩))
    clear hyes hno hiff hnot
    go_enter Tryd.func8, Tryd.ntmps8
    go_wp2_with fail
    refine (HD.out _).mono ?_
    rintro e w1 ⟨rfl, hb1⟩
    have hE1 := hE.below hb1
    go_wp2_with fail
    refine (HN.out _ hE1).mono ?_
    rintro e w2 ⟨rfl, hb2⟩
    have hE2 := hE1.below hb2
    rw [HR.out]
    go_wp2_with fail
    refine (awake_any _ hE2).mono ?_
    rintro e w3 ⟨rfl, hb3⟩
    go_wp2_with fail
    go_ret
    exact ⟨rfl, below_step hb1 (below_step hb2 hb3)⟩
  · have HR := Lib.hid (hno (hnot (by omega)))
    clear hyes hno hiff hnot
    go_enter Tryd.func8, Tryd.ntmps8
    go_wp2_with fail
    refine (HD.out _).mono ?_
    rintro e w1 ⟨rfl, hb1⟩
    have hE1 := hE.below hb1
    go_wp2_with fail
    refine (HN.out _ hE1).mono ?_
    rintro e w2 ⟨rfl, hb2⟩
    have hE2 := hE1.below hb2
    rw [HR.out]
    go_wp2_with fail
    refine (awake_any _ hE2).mono ?_
    rintro e w3 ⟨rfl, hb3⟩
    go_wp2_with fail
    go_ret
    exact ⟨rfl, below_step hb1 (below_step hb2 hb3)⟩
  · have hd : decide (n % 10000000000 ≤ most) = false := by simp; omega
    have HR := Lib.hid (hno (hnot (by omega)))
    clear hyes hno hiff hnot
    go_enter Tryd.func8, Tryd.ntmps8
    go_wp2_with fail
    refine (HD.out _).mono ?_
    rintro e w1 ⟨rfl, hb1⟩
    have hE1 := hE.below hb1
    go_wp2_with fail
    refine (HN.out _ hE1).mono ?_
    rintro e w2 ⟨rfl, hb2⟩
    have hE2 := hE1.below hb2
    rw [HR.out]
    go_wp2_with fail
    refine (awake_any _ hE2).mono ?_
    rintro e w3 ⟨rfl, hb3⟩
    go_wp2_with fail
    go_ret
    exact ⟨rfl, below_step hb1 (below_step hb2 hb3)⟩

set_option maxHeartbeats 4000000 in
set_option maxRecDepth 100000 in
theorem addrFore_any (s : ByteArray) (w : World) (hE : Env w) (hs : s.size ≤ maxLen) :
    Calls Tryd.prog 6 #[.string s] w fun e w' => e = .returned (.bool true) ∧ Below w.heap.size w w' := by
  unfold maxLen at hs
  by_cases h100 : 100 < s.size
  · go_enter Tryd.func6, Tryd.ntmps6
    go_wp2_with fail
    refine (awake_any _ hE).mono ?_
    rintro e w1 ⟨rfl, hb1⟩
    go_wp2_with fail
    go_ret
    exact ⟨rfl, hb1⟩
  · have HI := Lib.hid (show ∀ W, Env W → _ from fun W hW => ip_any s W hW (by omega))
    have HP := Lib.hid (show ∀ W, Env W → _ from fun W hW => pre_any s W hW (by omega))
    have HM := Lib.hid (show ∀ W, Env W → _ from fun W hW => mac_any s W hW (by omega))
    have HIT : 0 ≤ Adr.ip s.data.toList → Hid (∀ W, Env W → Calls Tryd.prog 19 #[.int .i64 (Adr.ip s.data.toList)] W fun e w' => e = .returned (.tuple #[.string s, .bool true]) ∧ Below W.heap.size W w') := fun h => Lib.hid fun W hW => by
      obtain ⟨h1, h2⟩ := Adr.ip_fore _ h
      have := ipText_any _ W hW h h1
      rw [h2, mk_data] at this; exact this
    have HPT : 0 ≤ (Adr.pre s.data.toList).1 → Hid (∀ W, Env W → Calls Tryd.prog 20 #[.int .i64 (Adr.pre s.data.toList).1, .int .i64 (Adr.pre s.data.toList).2] W fun e w' => e = .returned (.tuple #[.string s, .bool true]) ∧ Below W.heap.size W w') := fun h => Lib.hid fun W hW => by
      obtain ⟨h1, h2⟩ := Adr.pre_fore _ h
      have := preText_any _ _ W hW h1
      rw [h2, mk_data] at this; exact this
    have HMT : 0 ≤ Adr.mac s.data.toList → Hid (∀ W, Calls Tryd.prog 21 #[.int .i64 (Adr.mac s.data.toList)] W fun e w' => e = .returned (.tuple #[.string s, .bool true]) ∧ Below W.heap.size W w') := fun h => Lib.hid fun W => by
      obtain ⟨h1, h2⟩ := Adr.mac_fore _ h
      have := macText_any _ W h h1
      rw [h2, mk_data] at this; exact this
    have hI := fun h => okRet_yes (n := Adr.ip s.data.toList) h
    have hI' := fun h => okRet_no (n := Adr.ip s.data.toList) h
    have hM := fun h => okRet_yes (n := Adr.mac s.data.toList) h
    have hM' := fun h => okRet_no (n := Adr.mac s.data.toList) h
    have hP := fun h => preRet_yes (p := Adr.pre s.data.toList) h
    have hP' : ¬ 0 ≤ (Adr.pre s.data.toList).1 → preRet (Adr.pre s.data.toList) = .tuple #[.int .i64 0, .int .i64 0, .bool false] := fun h => by
      rw [Adr.pre_none _ (by omega)]; exact preRet_no
    have hs' : s.size ≤ 100 := by omega
    clear h100 hs
    generalize okRet (Adr.ip s.data.toList) = RI at *
    generalize okRet (Adr.mac s.data.toList) = RM at *
    generalize preRet (Adr.pre s.data.toList) = RP at *
    generalize Adr.ip s.data.toList = a at *
    generalize Adr.mac s.data.toList = m at *
    generalize Adr.pre s.data.toList = p at *
    obtain ⟨p1, p2⟩ := p
    simp only at HPT hP hP'
    have hseq : (s.toList == s.toList) = true := by simp
    rcases Int.lt_or_le a 0 with ha | ha
    · have RI0 := Lib.hid (hI' ha)
      clear hI hI' HIT
      rcases Int.lt_or_le p1 0 with hp | hp
      · have RP0 := Lib.hid (hP' (by omega))
        clear hP hP' HPT
        rcases Int.lt_or_le m 0 with hm | hm
        · have RM0 := Lib.hid (hM' hm)
          clear hM hM' HMT
          go_enter Tryd.func6, Tryd.ntmps6
          have hB0 := Below.refl w.heap.size w
          go_wp2_with fail
          refine (HI.out _ hE).mono ?_
          rintro e w1 ⟨rfl, hb1⟩
          have hE1 := hE.below hb1
          have hB1 := below_step hB0 hb1
          clear hb1
          rw [RI0.out]
          go_wp2_with fail
          refine (HP.out _ hE1).mono ?_
          rintro e w2 ⟨rfl, hb2⟩
          have hE2 := hE1.below hb2
          have hB2 := below_step hB1 hb2
          clear hb2
          rw [RP0.out]
          go_wp2_with fail
          refine (HM.out _ hE2).mono ?_
          rintro e w3 ⟨rfl, hb3⟩
          have hE3 := hE2.below hb3
          have hB3 := below_step hB2 hb3
          clear hb3
          rw [RM0.out]
          go_wp2_with fail
          refine (awake_any _ hE3).mono ?_
          rintro e w4 ⟨rfl, hb4⟩
          have hE4 := hE3.below hb4
          have hB4 := below_step hB3 hb4
          clear hb4
          go_wp2_with fail
          go_ret
          exact ⟨rfl, hB4⟩
        · have RM0 := Lib.hid (hM hm)
          have HMT0 := HMT hm
          clear hM hM' HMT
          go_enter Tryd.func6, Tryd.ntmps6
          have hB0 := Below.refl w.heap.size w
          go_wp2_with fail
          refine (HI.out _ hE).mono ?_
          rintro e w1 ⟨rfl, hb1⟩
          have hE1 := hE.below hb1
          have hB1 := below_step hB0 hb1
          clear hb1
          rw [RI0.out]
          go_wp2_with fail
          refine (HP.out _ hE1).mono ?_
          rintro e w2 ⟨rfl, hb2⟩
          have hE2 := hE1.below hb2
          have hB2 := below_step hB1 hb2
          clear hb2
          rw [RP0.out]
          go_wp2_with fail
          refine (HM.out _ hE2).mono ?_
          rintro e w3 ⟨rfl, hb3⟩
          have hE3 := hE2.below hb3
          have hB3 := below_step hB2 hb3
          clear hb3
          rw [RM0.out]
          go_wp2_with fail
          refine (HMT0.out _).mono ?_
          rintro e w4 ⟨rfl, hb4⟩
          have hE4 := hE3.below hb4
          have hB4 := below_step hB3 hb4
          clear hb4
          go_wp2_with fail
          refine (awake_any _ hE4).mono ?_
          rintro e w5 ⟨rfl, hb5⟩
          have hE5 := hE4.below hb5
          have hB5 := below_step hB4 hb5
          clear hb5
          go_wp2_with fail
          go_ret
          exact ⟨rfl, hB5⟩
      · have RP0 := Lib.hid (hP hp)
        have HPT0 := HPT hp
        clear hP hP' HPT
        rcases Int.lt_or_le m 0 with hm | hm
        · have RM0 := Lib.hid (hM' hm)
          clear hM hM' HMT
          go_enter Tryd.func6, Tryd.ntmps6
          have hB0 := Below.refl w.heap.size w
          go_wp2_with fail
          refine (HI.out _ hE).mono ?_
          rintro e w1 ⟨rfl, hb1⟩
          have hE1 := hE.below hb1
          have hB1 := below_step hB0 hb1
          clear hb1
          rw [RI0.out]
          go_wp2_with fail
          refine (HP.out _ hE1).mono ?_
          rintro e w2 ⟨rfl, hb2⟩
          have hE2 := hE1.below hb2
          have hB2 := below_step hB1 hb2
          clear hb2
          rw [RP0.out]
          go_wp2_with fail
          refine (HPT0.out _ hE2).mono ?_
          rintro e w3 ⟨rfl, hb3⟩
          have hE3 := hE2.below hb3
          have hB3 := below_step hB2 hb3
          clear hb3
          go_wp2_with fail
          refine (HM.out _ hE3).mono ?_
          rintro e w4 ⟨rfl, hb4⟩
          have hE4 := hE3.below hb4
          have hB4 := below_step hB3 hb4
          clear hb4
          rw [RM0.out]
          go_wp2_with fail
          refine (awake_any _ hE4).mono ?_
          rintro e w5 ⟨rfl, hb5⟩
          have hE5 := hE4.below hb5
          have hB5 := below_step hB4 hb5
          clear hb5
          go_wp2_with fail
          go_ret
          exact ⟨rfl, hB5⟩
        · have RM0 := Lib.hid (hM hm)
          have HMT0 := HMT hm
          clear hM hM' HMT
          go_enter Tryd.func6, Tryd.ntmps6
          have hB0 := Below.refl w.heap.size w
          go_wp2_with fail
          refine (HI.out _ hE).mono ?_
          rintro e w1 ⟨rfl, hb1⟩
          have hE1 := hE.below hb1
          have hB1 := below_step hB0 hb1
          clear hb1
          rw [RI0.out]
          go_wp2_with fail
          refine (HP.out _ hE1).mono ?_
          rintro e w2 ⟨rfl, hb2⟩
          have hE2 := hE1.below hb2
          have hB2 := below_step hB1 hb2
          clear hb2
          rw [RP0.out]
          go_wp2_with fail
          refine (HPT0.out _ hE2).mono ?_
          rintro e w3 ⟨rfl, hb3⟩
          have hE3 := hE2.below hb3
          have hB3 := below_step hB2 hb3
          clear hb3
          go_wp2_with fail
          refine (HM.out _ hE3).mono ?_
          rintro e w4 ⟨rfl, hb4⟩
          have hE4 := hE3.below hb4
          have hB4 := below_step hB3 hb4
          clear hb4
          rw [RM0.out]
          go_wp2_with fail
          refine (HMT0.out _).mono ?_
          rintro e w5 ⟨rfl, hb5⟩
          have hE5 := hE4.below hb5
          have hB5 := below_step hB4 hb5
          clear hb5
          go_wp2_with fail
          refine (awake_any _ hE5).mono ?_
          rintro e w6 ⟨rfl, hb6⟩
          have hE6 := hE5.below hb6
          have hB6 := below_step hB5 hb6
          clear hb6
          go_wp2_with fail
          go_ret
          exact ⟨rfl, hB6⟩
    · have RI0 := Lib.hid (hI ha)
      have HIT0 := HIT ha
      clear hI hI' HIT
      rcases Int.lt_or_le p1 0 with hp | hp
      · have RP0 := Lib.hid (hP' (by omega))
        clear hP hP' HPT
        rcases Int.lt_or_le m 0 with hm | hm
        · have RM0 := Lib.hid (hM' hm)
          clear hM hM' HMT
          go_enter Tryd.func6, Tryd.ntmps6
          have hB0 := Below.refl w.heap.size w
          go_wp2_with fail
          refine (HI.out _ hE).mono ?_
          rintro e w1 ⟨rfl, hb1⟩
          have hE1 := hE.below hb1
          have hB1 := below_step hB0 hb1
          clear hb1
          rw [RI0.out]
          go_wp2_with fail
          refine (HIT0.out _ hE1).mono ?_
          rintro e w2 ⟨rfl, hb2⟩
          have hE2 := hE1.below hb2
          have hB2 := below_step hB1 hb2
          clear hb2
          go_wp2_with fail
          refine (HP.out _ hE2).mono ?_
          rintro e w3 ⟨rfl, hb3⟩
          have hE3 := hE2.below hb3
          have hB3 := below_step hB2 hb3
          clear hb3
          rw [RP0.out]
          go_wp2_with fail
          refine (HM.out _ hE3).mono ?_
          rintro e w4 ⟨rfl, hb4⟩
          have hE4 := hE3.below hb4
          have hB4 := below_step hB3 hb4
          clear hb4
          rw [RM0.out]
          go_wp2_with fail
          refine (awake_any _ hE4).mono ?_
          rintro e w5 ⟨rfl, hb5⟩
          have hE5 := hE4.below hb5
          have hB5 := below_step hB4 hb5
          clear hb5
          go_wp2_with fail
          go_ret
          exact ⟨rfl, hB5⟩
        · have RM0 := Lib.hid (hM hm)
          have HMT0 := HMT hm
          clear hM hM' HMT
          go_enter Tryd.func6, Tryd.ntmps6
          have hB0 := Below.refl w.heap.size w
          go_wp2_with fail
          refine (HI.out _ hE).mono ?_
          rintro e w1 ⟨rfl, hb1⟩
          have hE1 := hE.below hb1
          have hB1 := below_step hB0 hb1
          clear hb1
          rw [RI0.out]
          go_wp2_with fail
          refine (HIT0.out _ hE1).mono ?_
          rintro e w2 ⟨rfl, hb2⟩
          have hE2 := hE1.below hb2
          have hB2 := below_step hB1 hb2
          clear hb2
          go_wp2_with fail
          refine (HP.out _ hE2).mono ?_
          rintro e w3 ⟨rfl, hb3⟩
          have hE3 := hE2.below hb3
          have hB3 := below_step hB2 hb3
          clear hb3
          rw [RP0.out]
          go_wp2_with fail
          refine (HM.out _ hE3).mono ?_
          rintro e w4 ⟨rfl, hb4⟩
          have hE4 := hE3.below hb4
          have hB4 := below_step hB3 hb4
          clear hb4
          rw [RM0.out]
          go_wp2_with fail
          refine (HMT0.out _).mono ?_
          rintro e w5 ⟨rfl, hb5⟩
          have hE5 := hE4.below hb5
          have hB5 := below_step hB4 hb5
          clear hb5
          go_wp2_with fail
          refine (awake_any _ hE5).mono ?_
          rintro e w6 ⟨rfl, hb6⟩
          have hE6 := hE5.below hb6
          have hB6 := below_step hB5 hb6
          clear hb6
          go_wp2_with fail
          go_ret
          exact ⟨rfl, hB6⟩
      · have RP0 := Lib.hid (hP hp)
        have HPT0 := HPT hp
        clear hP hP' HPT
        rcases Int.lt_or_le m 0 with hm | hm
        · have RM0 := Lib.hid (hM' hm)
          clear hM hM' HMT
          go_enter Tryd.func6, Tryd.ntmps6
          have hB0 := Below.refl w.heap.size w
          go_wp2_with fail
          refine (HI.out _ hE).mono ?_
          rintro e w1 ⟨rfl, hb1⟩
          have hE1 := hE.below hb1
          have hB1 := below_step hB0 hb1
          clear hb1
          rw [RI0.out]
          go_wp2_with fail
          refine (HIT0.out _ hE1).mono ?_
          rintro e w2 ⟨rfl, hb2⟩
          have hE2 := hE1.below hb2
          have hB2 := below_step hB1 hb2
          clear hb2
          go_wp2_with fail
          refine (HP.out _ hE2).mono ?_
          rintro e w3 ⟨rfl, hb3⟩
          have hE3 := hE2.below hb3
          have hB3 := below_step hB2 hb3
          clear hb3
          rw [RP0.out]
          go_wp2_with fail
          refine (HPT0.out _ hE3).mono ?_
          rintro e w4 ⟨rfl, hb4⟩
          have hE4 := hE3.below hb4
          have hB4 := below_step hB3 hb4
          clear hb4
          go_wp2_with fail
          refine (HM.out _ hE4).mono ?_
          rintro e w5 ⟨rfl, hb5⟩
          have hE5 := hE4.below hb5
          have hB5 := below_step hB4 hb5
          clear hb5
          rw [RM0.out]
          go_wp2_with fail
          refine (awake_any _ hE5).mono ?_
          rintro e w6 ⟨rfl, hb6⟩
          have hE6 := hE5.below hb6
          have hB6 := below_step hB5 hb6
          clear hb6
          go_wp2_with fail
          go_ret
          exact ⟨rfl, hB6⟩
        · have RM0 := Lib.hid (hM hm)
          have HMT0 := HMT hm
          clear hM hM' HMT
          go_enter Tryd.func6, Tryd.ntmps6
          have hB0 := Below.refl w.heap.size w
          go_wp2_with fail
          refine (HI.out _ hE).mono ?_
          rintro e w1 ⟨rfl, hb1⟩
          have hE1 := hE.below hb1
          have hB1 := below_step hB0 hb1
          clear hb1
          rw [RI0.out]
          go_wp2_with fail
          refine (HIT0.out _ hE1).mono ?_
          rintro e w2 ⟨rfl, hb2⟩
          have hE2 := hE1.below hb2
          have hB2 := below_step hB1 hb2
          clear hb2
          go_wp2_with fail
          refine (HP.out _ hE2).mono ?_
          rintro e w3 ⟨rfl, hb3⟩
          have hE3 := hE2.below hb3
          have hB3 := below_step hB2 hb3
          clear hb3
          rw [RP0.out]
          go_wp2_with fail
          refine (HPT0.out _ hE3).mono ?_
          rintro e w4 ⟨rfl, hb4⟩
          have hE4 := hE3.below hb4
          have hB4 := below_step hB3 hb4
          clear hb4
          go_wp2_with fail
          refine (HM.out _ hE4).mono ?_
          rintro e w5 ⟨rfl, hb5⟩
          have hE5 := hE4.below hb5
          have hB5 := below_step hB4 hb5
          clear hb5
          rw [RM0.out]
          go_wp2_with fail
          refine (HMT0.out _).mono ?_
          rintro e w6 ⟨rfl, hb6⟩
          have hE6 := hE5.below hb6
          have hB6 := below_step hB5 hb6
          clear hb6
          go_wp2_with fail
          refine (awake_any _ hE6).mono ?_
          rintro e w7 ⟨rfl, hb7⟩
          have hE7 := hE6.below hb7
          have hB7 := below_step hB6 hb7
          clear hb7
          go_wp2_with fail
          go_ret
          exact ⟨rfl, hB7⟩
end Go.Proofs.YthnbhdphelhcfaaDoor
