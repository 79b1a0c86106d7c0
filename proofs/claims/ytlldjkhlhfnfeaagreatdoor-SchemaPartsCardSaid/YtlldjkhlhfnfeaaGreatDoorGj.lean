/- Walks: schema.name, Type and the reference's. Walks: schema.rules; slices.EqualFunc at schema.fits, schema.match. Walks: schema.fits, slices.EqualFunc at it, schema.match. -/
import Derived.Test.YtlldjkhlhfnfeaaGreatDoorGh
import Derived.Test.YtlldjkhlhfnfeaaGreatDoorGf
import Derived.Test.YtlldjkhlhfnfeaaGreatDoorGi
import Derived.Test.YtlldjkhlhfnfeaaGreatDoorGe
namespace Sch
open Go Go.Lib Adr Mtr Tre
def nmSet : List UInt8 := [97, 98, 99, 100, 101, 102, 103, 104, 105, 106, 107, 108, 109, 110, 111, 112, 113, 114, 115, 116, 117, 118, 119, 120, 121, 122, 48, 49, 50, 51, 52, 53, 54, 55, 56, 57, 45]
theorem nm_has (c : UInt8) : nmSet.contains c = isNm c := by
  have : ∀ n : Fin 256, nmSet.contains (UInt8.ofNat n) = isNm (UInt8.ofNat n) := by decide +kernel
  have h := this ⟨c.toNat, c.toNat_lt⟩
  simpa using h
theorem trim_nm (l : List UInt8) : (trimS l nmSet).isEmpty = l.all isNm := by
  rw [Bool.eq_iff_iff, List.isEmpty_iff, trim_nil, show (fun x => nmSet.contains x) = isNm from funext nm_has]
theorem type_eq (k : ByteArray) (l : List UInt8) : (k.toList == l) = decide (k = ⟨l.toArray⟩) := by
  rw [Lib.toList_data, Bool.eq_iff_iff, beq_iff_eq, decide_eq_true_eq]
  constructor
  · rintro rfl; exact (Lib.mk_data k).symm
  · rintro rfl; simp
end Sch
namespace Go.Proofs.YtlldjkhlhfnfeaaGreatDoor
open Go Go.RowKit Sch Adr Mtr

theorem isEmpty_not {s : ByteArray} (h : s.size = 0) : s.toList.isEmpty = true := by
  rw [Lib.toList_data, List.isEmpty_iff]; exact List.length_eq_zero_iff.1 (by rw [size_data]; exact h)
set_option maxHeartbeats 1000000 in
theorem name_any (s : ByteArray) (w : World) (hs : s.size ≤ 100000000) :
    Calls Tryz.prog 70 #[.string s] w fun e w' => e = .returned (.bool (nameB s.data.toList)) ∧ Below w.heap.size w w' := by
  have HX : Hid (nameB s.data.toList = (decide (1 ≤ s.data.toList.length) && decide (s.data.toList.length ≤ 16) && isLow (s.data.toList.getD 0 0) && s.data.toList.all isNm)) := rfl
  have hsz := size_data s
  have HZ := Lib.hid hsz
  clear hsz
  by_cases h0 : s.size = 0
  · have he := isEmpty_not h0
    have he2 : s.toList = [] := by simpa using he
    have HK : Hid (nameB s.data.toList = false) := by show _ = _; rw [HX.out, HZ.out, decide_eq_false (by omega)]; rfl
    clear HX h0
    go_enter Tryz.func70, Tryz.ntmps70
    go_wp2
    go_ret
    exact ⟨ret_bool HK.out.symm, Below.refl _ _⟩
  · have hp : 0 < s.size := by omega
    have he := nonempty_list hp
    have he2 : ¬ s.toList = [] := by simpa using he
    by_cases h16 : s.size ≤ 16
    · have hg : Hid (s.data.toList.getD 0 0 = s[0]) := by
        show _ = _
        rw [List.getD_eq_getElem?_getD, List.getElem?_eq_getElem (by rw [HZ.out]; exact hp)]; rfl
      have HX1 : Hid (nameB s.data.toList = (isLow s[0] && s.data.toList.all isNm)) := by
        show _ = _
        rw [HX.out, HZ.out, hg.out, decide_eq_true (p := 1 ≤ s.size) (by omega), decide_eq_true h16]; simp
      have HL : Hid (isLow s[0] = (decide (97 ≤ s[0].toNat) && decide (s[0].toNat ≤ 122))) := rfl
      have h16' : decide ((s.size : Int) ≤ 16) = true := decide_eq_true (by omega)
      by_cases h1 : 97 ≤ s[0].toNat
      · by_cases h2 : s[0].toNat ≤ 122
        · have HX2 : Hid (nameB s.data.toList = s.data.toList.all isNm) := by
            show _ = _
            rw [HX1.out, HL.out, decide_eq_true h1, decide_eq_true h2]; rfl
          have HT := Lib.hid (trim_any s ⟨#[97, 98, 99, 100, 101, 102, 103, 104, 105, 106, 107, 108, 109, 110, 111, 112, 113, 114, 115, 116, 117, 118, 119, 120, 121, 122, 48, 49, 50, 51, 52, 53, 54, 55, 56, 57, 45]⟩ w hs (by decide) (by decide))
          have HE : Hid ((⟨(Lib.trimS s.data.toList nmSet).toArray⟩ : ByteArray).toList.isEmpty = s.data.toList.all isNm) := by show _ = _; rw [isEmpty_mk]; exact trim_nm _
          have HT2 : Hid (Calls Tryz.prog 95 #[.string s, .string ⟨#[97, 98, 99, 100, 101, 102, 103, 104, 105, 106, 107, 108, 109, 110, 111, 112, 113, 114, 115, 116, 117, 118, 119, 120, 121, 122, 48, 49, 50, 51, 52, 53, 54, 55, 56, 57, 45]⟩] w fun e w' => e = .returned (.string ⟨(Lib.trimS s.data.toList nmSet).toArray⟩) ∧ Below w.heap.size w w') := HT.out
          clear HX HX1 HL HT hg h0
          generalize (⟨(Lib.trimS s.data.toList nmSet).toArray⟩ : ByteArray) = t at *
          generalize s.data.toList.all isNm = b at *
          go_enter Tryz.func70, Tryz.ntmps70
          cases b with
          | true =>
            have ht : t.toList.isEmpty = true := HE.out
            have ht2 : t.toList = [] := by simpa using ht
            go_wp2_with fail
            refine HT2.out.mono ?_
            rintro e w1 ⟨rfl, hb1⟩
            go_wp2
            go_ret
            exact ⟨ret_bool HX2.out.symm, hb1⟩
          | false =>
            have ht : t.toList.isEmpty = false := HE.out
            have ht2 : ¬ t.toList = [] := by simpa using ht
            go_wp2_with fail
            refine HT2.out.mono ?_
            rintro e w1 ⟨rfl, hb1⟩
            go_wp2
            go_ret
            exact ⟨ret_bool HX2.out.symm, hb1⟩
        · have HK : Hid (nameB s.data.toList = false) := by show _ = _; rw [HX1.out, HL.out, decide_eq_false h2]; simp
          clear HX HX1 HL hg h0
          go_enter Tryz.func70, Tryz.ntmps70
          go_wp2
          go_ret
          exact ⟨ret_bool HK.out.symm, Below.refl _ _⟩
      · have HK : Hid (nameB s.data.toList = false) := by show _ = _; rw [HX1.out, HL.out, decide_eq_false h1]; simp
        clear HX HX1 HL hg h0
        go_enter Tryz.func70, Tryz.ntmps70
        go_wp2
        go_ret
        exact ⟨ret_bool HK.out.symm, Below.refl _ _⟩
    · have h16' : decide ((s.size : Int) ≤ 16) = false := decide_eq_false (by omega)
      have HK : Hid (nameB s.data.toList = false) := by show _ = _; rw [HX.out, HZ.out, decide_eq_false h16]; simp
      clear HX h0
      go_enter Tryz.func70, Tryz.ntmps70
      go_wp2
      go_ret
      exact ⟨ret_bool HK.out.symm, Below.refl _ _⟩

set_option maxHeartbeats 4000000 in
set_option maxRecDepth 100000 in
theorem type_any (k s : ByteArray) (w : World) (hE : Env w) (hs : s.size ≤ 100000000) :
    Calls Tryz.prog 43 #[.string k, .string s] w fun e w' => e = .returned (.bool (typeB k s)) ∧ Below w.heap.size w w' := by
  by_cases h0 : k = tName
  · skip
    have q0 : (k.toList == [36, 110, 97, 109, 101]) = true := (type_eq k [36, 110, 97, 109, 101]).trans (decide_eq_true h0)
    have p0 : k.toList = [36, 110, 97, 109, 101] := by simpa using q0
    have HK : Hid (typeB k s = (nameB s.data.toList)) := by show _ = _; unfold typeB; rw [if_pos h0]
    have HC := Lib.hid (name_any s w hs)
    generalize nameB s.data.toList = b at *
    clear h0 hE
    go_enter Tryz.func43, Tryz.ntmps43
    go_wp2_with fail
    refine HC.out.mono ?_
    rintro e w1 ⟨rfl, hb1⟩
    clear HC
    go_wp2
    go_ret
    exact ⟨ret_bool HK.out.symm, hb1⟩
  by_cases h1 : k = tIp
  · skip
    have q0 : (k.toList == [36, 110, 97, 109, 101]) = false := (type_eq k [36, 110, 97, 109, 101]).trans (decide_eq_false h0)
    have p0 : ¬ k.toList = [36, 110, 97, 109, 101] := by simpa using q0
    have q1 : (k.toList == [36, 105, 112]) = true := (type_eq k [36, 105, 112]).trans (decide_eq_true h1)
    have p1 : k.toList = [36, 105, 112] := by simpa using q1
    have HK : Hid (typeB k s = (decide (0 ≤ ip s.data.toList))) := by show _ = _; unfold typeB; rw [if_neg h0, if_pos h1]
    have HC := Lib.hid (ip_any s w hE hs)
    unfold okRet at HC
    generalize decide (0 ≤ ip s.data.toList) = b at *
    clear h0 h1 hE
    go_enter Tryz.func43, Tryz.ntmps43
    go_wp2_with fail
    refine HC.out.mono ?_
    rintro e w1 ⟨rfl, hb1⟩
    clear HC
    go_wp2
    go_ret
    exact ⟨ret_bool HK.out.symm, hb1⟩
  by_cases h2 : k = tPrefix
  · skip
    have q0 : (k.toList == [36, 110, 97, 109, 101]) = false := (type_eq k [36, 110, 97, 109, 101]).trans (decide_eq_false h0)
    have p0 : ¬ k.toList = [36, 110, 97, 109, 101] := by simpa using q0
    have q1 : (k.toList == [36, 105, 112]) = false := (type_eq k [36, 105, 112]).trans (decide_eq_false h1)
    have p1 : ¬ k.toList = [36, 105, 112] := by simpa using q1
    have q2 : (k.toList == [36, 112, 114, 101, 102, 105, 120]) = true := (type_eq k [36, 112, 114, 101, 102, 105, 120]).trans (decide_eq_true h2)
    have p2 : k.toList = [36, 112, 114, 101, 102, 105, 120] := by simpa using q2
    have HK : Hid (typeB k s = (decide (0 ≤ (pre s.data.toList).1))) := by show _ = _; unfold typeB; rw [if_neg h0, if_neg h1, if_pos h2]
    have HC := Lib.hid (pre_any s w hE hs)
    unfold preRet at HC
    generalize decide (0 ≤ (pre s.data.toList).1) = b at *
    clear h0 h1 h2 hE
    go_enter Tryz.func43, Tryz.ntmps43
    go_wp2_with fail
    refine HC.out.mono ?_
    rintro e w1 ⟨rfl, hb1⟩
    clear HC
    go_wp2
    go_ret
    exact ⟨ret_bool HK.out.symm, hb1⟩
  by_cases h3 : k = tMac
  · skip
    have q0 : (k.toList == [36, 110, 97, 109, 101]) = false := (type_eq k [36, 110, 97, 109, 101]).trans (decide_eq_false h0)
    have p0 : ¬ k.toList = [36, 110, 97, 109, 101] := by simpa using q0
    have q1 : (k.toList == [36, 105, 112]) = false := (type_eq k [36, 105, 112]).trans (decide_eq_false h1)
    have p1 : ¬ k.toList = [36, 105, 112] := by simpa using q1
    have q2 : (k.toList == [36, 112, 114, 101, 102, 105, 120]) = false := (type_eq k [36, 112, 114, 101, 102, 105, 120]).trans (decide_eq_false h2)
    have p2 : ¬ k.toList = [36, 112, 114, 101, 102, 105, 120] := by simpa using q2
    have q3 : (k.toList == [36, 109, 97, 99]) = true := (type_eq k [36, 109, 97, 99]).trans (decide_eq_true h3)
    have p3 : k.toList = [36, 109, 97, 99] := by simpa using q3
    have HK : Hid (typeB k s = (decide (0 ≤ mac s.data.toList))) := by show _ = _; unfold typeB; rw [if_neg h0, if_neg h1, if_neg h2, if_pos h3]
    have HC := Lib.hid (mac_any s w hE hs)
    unfold okRet at HC
    generalize decide (0 ≤ mac s.data.toList) = b at *
    clear h0 h1 h2 h3 hE
    go_enter Tryz.func43, Tryz.ntmps43
    go_wp2_with fail
    refine HC.out.mono ?_
    rintro e w1 ⟨rfl, hb1⟩
    clear HC
    go_wp2
    go_ret
    exact ⟨ret_bool HK.out.symm, hb1⟩
  by_cases h4 : k = tVni
  · skip
    have q0 : (k.toList == [36, 110, 97, 109, 101]) = false := (type_eq k [36, 110, 97, 109, 101]).trans (decide_eq_false h0)
    have p0 : ¬ k.toList = [36, 110, 97, 109, 101] := by simpa using q0
    have q1 : (k.toList == [36, 105, 112]) = false := (type_eq k [36, 105, 112]).trans (decide_eq_false h1)
    have p1 : ¬ k.toList = [36, 105, 112] := by simpa using q1
    have q2 : (k.toList == [36, 112, 114, 101, 102, 105, 120]) = false := (type_eq k [36, 112, 114, 101, 102, 105, 120]).trans (decide_eq_false h2)
    have p2 : ¬ k.toList = [36, 112, 114, 101, 102, 105, 120] := by simpa using q2
    have q3 : (k.toList == [36, 109, 97, 99]) = false := (type_eq k [36, 109, 97, 99]).trans (decide_eq_false h3)
    have p3 : ¬ k.toList = [36, 109, 97, 99] := by simpa using q3
    have q4 : (k.toList == [36, 118, 110, 105]) = true := (type_eq k [36, 118, 110, 105]).trans (decide_eq_true h4)
    have p4 : k.toList = [36, 118, 110, 105] := by simpa using q4
    have HK : Hid (typeB k s = (numIn s.data.toList 1 16777215)) := by show _ = _; unfold typeB; rw [if_neg h0, if_neg h1, if_neg h2, if_neg h3, if_pos h4]
    have HC := Lib.hid (num_any s 1 16777215 w hE (by omega))
    unfold numRet at HC
    generalize (if numIn s.data.toList 1 16777215 = true then num s.data.toList else 0) = z at HC
    generalize numIn s.data.toList 1 16777215 = b at *
    clear h0 h1 h2 h3 h4 hE
    go_enter Tryz.func43, Tryz.ntmps43
    go_wp2_with fail
    refine HC.out.mono ?_
    rintro e w1 ⟨rfl, hb1⟩
    clear HC
    go_wp2
    go_ret
    exact ⟨ret_bool HK.out.symm, hb1⟩
  by_cases h5 : k = tNum
  · skip
    have q0 : (k.toList == [36, 110, 97, 109, 101]) = false := (type_eq k [36, 110, 97, 109, 101]).trans (decide_eq_false h0)
    have p0 : ¬ k.toList = [36, 110, 97, 109, 101] := by simpa using q0
    have q1 : (k.toList == [36, 105, 112]) = false := (type_eq k [36, 105, 112]).trans (decide_eq_false h1)
    have p1 : ¬ k.toList = [36, 105, 112] := by simpa using q1
    have q2 : (k.toList == [36, 112, 114, 101, 102, 105, 120]) = false := (type_eq k [36, 112, 114, 101, 102, 105, 120]).trans (decide_eq_false h2)
    have p2 : ¬ k.toList = [36, 112, 114, 101, 102, 105, 120] := by simpa using q2
    have q3 : (k.toList == [36, 109, 97, 99]) = false := (type_eq k [36, 109, 97, 99]).trans (decide_eq_false h3)
    have p3 : ¬ k.toList = [36, 109, 97, 99] := by simpa using q3
    have q4 : (k.toList == [36, 118, 110, 105]) = false := (type_eq k [36, 118, 110, 105]).trans (decide_eq_false h4)
    have p4 : ¬ k.toList = [36, 118, 110, 105] := by simpa using q4
    have q5 : (k.toList == [36, 110, 117, 109]) = true := (type_eq k [36, 110, 117, 109]).trans (decide_eq_true h5)
    have p5 : k.toList = [36, 110, 117, 109] := by simpa using q5
    have HK : Hid (typeB k s = (numIn s.data.toList 1 1000)) := by show _ = _; unfold typeB; rw [if_neg h0, if_neg h1, if_neg h2, if_neg h3, if_neg h4, if_pos h5]
    have HC := Lib.hid (num_any s 1 1000 w hE (by omega))
    unfold numRet at HC
    generalize (if numIn s.data.toList 1 1000 = true then num s.data.toList else 0) = z at HC
    generalize numIn s.data.toList 1 1000 = b at *
    clear h0 h1 h2 h3 h4 h5 hE
    go_enter Tryz.func43, Tryz.ntmps43
    go_wp2_with fail
    refine HC.out.mono ?_
    rintro e w1 ⟨rfl, hb1⟩
    clear HC
    go_wp2
    go_ret
    exact ⟨ret_bool HK.out.symm, hb1⟩
  by_cases h6 : k = tMetric
  · skip
    have q0 : (k.toList == [36, 110, 97, 109, 101]) = false := (type_eq k [36, 110, 97, 109, 101]).trans (decide_eq_false h0)
    have p0 : ¬ k.toList = [36, 110, 97, 109, 101] := by simpa using q0
    have q1 : (k.toList == [36, 105, 112]) = false := (type_eq k [36, 105, 112]).trans (decide_eq_false h1)
    have p1 : ¬ k.toList = [36, 105, 112] := by simpa using q1
    have q2 : (k.toList == [36, 112, 114, 101, 102, 105, 120]) = false := (type_eq k [36, 112, 114, 101, 102, 105, 120]).trans (decide_eq_false h2)
    have p2 : ¬ k.toList = [36, 112, 114, 101, 102, 105, 120] := by simpa using q2
    have q3 : (k.toList == [36, 109, 97, 99]) = false := (type_eq k [36, 109, 97, 99]).trans (decide_eq_false h3)
    have p3 : ¬ k.toList = [36, 109, 97, 99] := by simpa using q3
    have q4 : (k.toList == [36, 118, 110, 105]) = false := (type_eq k [36, 118, 110, 105]).trans (decide_eq_false h4)
    have p4 : ¬ k.toList = [36, 118, 110, 105] := by simpa using q4
    have q5 : (k.toList == [36, 110, 117, 109]) = false := (type_eq k [36, 110, 117, 109]).trans (decide_eq_false h5)
    have p5 : ¬ k.toList = [36, 110, 117, 109] := by simpa using q5
    have q6 : (k.toList == [36, 109, 101, 116, 114, 105, 99]) = true := (type_eq k [36, 109, 101, 116, 114, 105, 99]).trans (decide_eq_true h6)
    have p6 : k.toList = [36, 109, 101, 116, 114, 105, 99] := by simpa using q6
    have HK : Hid (typeB k s = (readOk s.data.toList)) := by show _ = _; unfold typeB; rw [if_neg h0, if_neg h1, if_neg h2, if_neg h3, if_neg h4, if_neg h5, if_pos h6]
    have HC := Lib.hid (read_any s w hE hs)
    unfold ReadEnd at HC
    generalize readOk s.data.toList = b at *
    clear h0 h1 h2 h3 h4 h5 h6 hE
    go_enter Tryz.func43, Tryz.ntmps43
    go_wp2_with fail
    refine HC.out.mono ?_
    rintro e w1 ⟨⟨f, rfl⟩, hb1⟩
    clear HC
    go_wp2
    go_ret
    exact ⟨ret_bool HK.out.symm, hb1⟩
  by_cases h7 : k = tAction
  · skip
    have q0 : (k.toList == [36, 110, 97, 109, 101]) = false := (type_eq k [36, 110, 97, 109, 101]).trans (decide_eq_false h0)
    have p0 : ¬ k.toList = [36, 110, 97, 109, 101] := by simpa using q0
    have q1 : (k.toList == [36, 105, 112]) = false := (type_eq k [36, 105, 112]).trans (decide_eq_false h1)
    have p1 : ¬ k.toList = [36, 105, 112] := by simpa using q1
    have q2 : (k.toList == [36, 112, 114, 101, 102, 105, 120]) = false := (type_eq k [36, 112, 114, 101, 102, 105, 120]).trans (decide_eq_false h2)
    have p2 : ¬ k.toList = [36, 112, 114, 101, 102, 105, 120] := by simpa using q2
    have q3 : (k.toList == [36, 109, 97, 99]) = false := (type_eq k [36, 109, 97, 99]).trans (decide_eq_false h3)
    have p3 : ¬ k.toList = [36, 109, 97, 99] := by simpa using q3
    have q4 : (k.toList == [36, 118, 110, 105]) = false := (type_eq k [36, 118, 110, 105]).trans (decide_eq_false h4)
    have p4 : ¬ k.toList = [36, 118, 110, 105] := by simpa using q4
    have q5 : (k.toList == [36, 110, 117, 109]) = false := (type_eq k [36, 110, 117, 109]).trans (decide_eq_false h5)
    have p5 : ¬ k.toList = [36, 110, 117, 109] := by simpa using q5
    have q6 : (k.toList == [36, 109, 101, 116, 114, 105, 99]) = false := (type_eq k [36, 109, 101, 116, 114, 105, 99]).trans (decide_eq_false h6)
    have p6 : ¬ k.toList = [36, 109, 101, 116, 114, 105, 99] := by simpa using q6
    have q7 : (k.toList == [36, 97, 99, 116, 105, 111, 110]) = true := (type_eq k [36, 97, 99, 116, 105, 111, 110]).trans (decide_eq_true h7)
    have p7 : k.toList = [36, 97, 99, 116, 105, 111, 110] := by simpa using q7
    have HK : Hid (typeB k s = (decide (s = wPermit) || decide (s = wDeny))) := by show _ = _; unfold typeB; rw [if_neg h0, if_neg h1, if_neg h2, if_neg h3, if_neg h4, if_neg h5, if_neg h6, if_pos h7]
    clear h0 h1 h2 h3 h4 h5 h6 h7 hE
    by_cases g1 : s = wPermit
    · have y1 : (s.toList == [112, 101, 114, 109, 105, 116]) = true := (type_eq s [112, 101, 114, 109, 105, 116]).trans (decide_eq_true g1)
      have z1 : s.toList = [112, 101, 114, 109, 105, 116] := by simpa using y1
      have HK2 : Hid (typeB k s = true) := by show _ = _; rw [HK.out, decide_eq_true g1]; rfl
      clear g1 HK
      go_enter Tryz.func43, Tryz.ntmps43
      go_wp2
      go_ret
      exact ⟨ret_bool HK2.out.symm, Below.refl _ _⟩
    · have y1 : (s.toList == [112, 101, 114, 109, 105, 116]) = false := (type_eq s [112, 101, 114, 109, 105, 116]).trans (decide_eq_false g1)
      have z1 : ¬ s.toList = [112, 101, 114, 109, 105, 116] := by simpa using y1
      by_cases g2 : s = wDeny
      · have y2 : (s.toList == [100, 101, 110, 121]) = true := (type_eq s [100, 101, 110, 121]).trans (decide_eq_true g2)
        have z2 : s.toList = [100, 101, 110, 121] := by simpa using y2
        have HK2 : Hid (typeB k s = true) := by show _ = _; rw [HK.out, decide_eq_true g2]; simp
        clear g1 g2 HK
        go_enter Tryz.func43, Tryz.ntmps43
        go_wp2
        go_ret
        exact ⟨ret_bool HK2.out.symm, Below.refl _ _⟩
      · have y2 : (s.toList == [100, 101, 110, 121]) = false := (type_eq s [100, 101, 110, 121]).trans (decide_eq_false g2)
        have z2 : ¬ s.toList = [100, 101, 110, 121] := by simpa using y2
        have HK2 : Hid (typeB k s = false) := by show _ = _; rw [HK.out, decide_eq_false g1, decide_eq_false g2]; rfl
        clear g1 g2 HK
        go_enter Tryz.func43, Tryz.ntmps43
        go_wp2
        go_ret
        exact ⟨ret_bool HK2.out.symm, Below.refl _ _⟩
  have q0 : (k.toList == [36, 110, 97, 109, 101]) = false := (type_eq k [36, 110, 97, 109, 101]).trans (decide_eq_false h0)
  have p0 : ¬ k.toList = [36, 110, 97, 109, 101] := by simpa using q0
  have q1 : (k.toList == [36, 105, 112]) = false := (type_eq k [36, 105, 112]).trans (decide_eq_false h1)
  have p1 : ¬ k.toList = [36, 105, 112] := by simpa using q1
  have q2 : (k.toList == [36, 112, 114, 101, 102, 105, 120]) = false := (type_eq k [36, 112, 114, 101, 102, 105, 120]).trans (decide_eq_false h2)
  have p2 : ¬ k.toList = [36, 112, 114, 101, 102, 105, 120] := by simpa using q2
  have q3 : (k.toList == [36, 109, 97, 99]) = false := (type_eq k [36, 109, 97, 99]).trans (decide_eq_false h3)
  have p3 : ¬ k.toList = [36, 109, 97, 99] := by simpa using q3
  have q4 : (k.toList == [36, 118, 110, 105]) = false := (type_eq k [36, 118, 110, 105]).trans (decide_eq_false h4)
  have p4 : ¬ k.toList = [36, 118, 110, 105] := by simpa using q4
  have q5 : (k.toList == [36, 110, 117, 109]) = false := (type_eq k [36, 110, 117, 109]).trans (decide_eq_false h5)
  have p5 : ¬ k.toList = [36, 110, 117, 109] := by simpa using q5
  have q6 : (k.toList == [36, 109, 101, 116, 114, 105, 99]) = false := (type_eq k [36, 109, 101, 116, 114, 105, 99]).trans (decide_eq_false h6)
  have p6 : ¬ k.toList = [36, 109, 101, 116, 114, 105, 99] := by simpa using q6
  have q7 : (k.toList == [36, 97, 99, 116, 105, 111, 110]) = false := (type_eq k [36, 97, 99, 116, 105, 111, 110]).trans (decide_eq_false h7)
  have p7 : ¬ k.toList = [36, 97, 99, 116, 105, 111, 110] := by simpa using q7
  have HK : Hid (typeB k s = false) := by show _ = _; unfold typeB; rw [if_neg h0, if_neg h1, if_neg h2, if_neg h3, if_neg h4, if_neg h5, if_neg h6, if_neg h7]
  clear h0 h1 h2 h3 h4 h5 h6 h7
  go_enter Tryz.func43, Tryz.ntmps43
  go_wp2
  go_ret
  exact ⟨ret_bool HK.out.symm, Below.refl _ _⟩

end Go.Proofs.YtlldjkhlhfnfeaaGreatDoor

namespace Sch
open Go Go.Lib Adr Mtr Tre
def bw (l : List UInt8) : ByteArray := ⟨l.toArray⟩
def ruleFrom (s : List UInt8) : Rule := ⟨(parts 32 (trimRightS s [43, 33])).map bw, !(decide (trimRightS s [43, 33] = s)), hasSuffix s [33]⟩
def allText : List UInt8 := [104, 111, 115, 116, 115, 124, 104, 111, 115, 116, 115, 32, 36, 110, 97, 109, 101, 124, 104, 111, 115, 116, 115, 32, 36, 110, 97, 109, 101, 32, 105, 112, 33, 124, 104, 111, 115, 116, 115, 32, 36, 110, 97, 109, 101, 32, 105, 112, 32, 36, 105, 112, 124, 104, 111, 115, 116, 115, 32, 36, 110, 97, 109, 101, 32, 109, 97, 99, 43, 124, 104, 111, 115, 116, 115, 32, 36, 110, 97, 109, 101, 32, 109, 97, 99, 32, 36, 109, 97, 99, 124, 104, 111, 115, 116, 115, 32, 36, 110, 97, 109, 101, 32, 118, 110, 105, 115, 124, 104, 111, 115, 116, 115, 32, 36, 110, 97, 109, 101, 32, 118, 110, 105, 115, 32, 36, 118, 110, 105, 124, 118, 110, 105, 115, 124, 118, 110, 105, 115, 32, 36, 118, 110, 105, 124, 118, 110, 105, 115, 32, 36, 118, 110, 105, 32, 115, 117, 98, 110, 101, 116, 33, 124, 118, 110, 105, 115, 32, 36, 118, 110, 105, 32, 115, 117, 98, 110, 101, 116, 32, 36, 112, 114, 101, 102, 105, 120, 124, 98, 105, 110, 100, 105, 110, 103, 115, 124, 98, 105, 110, 100, 105, 110, 103, 115, 32, 36, 105, 112, 124, 98, 105, 110, 100, 105, 110, 103, 115, 32, 36, 105, 112, 32, 104, 111, 115, 116, 33, 124, 98, 105, 110, 100, 105, 110, 103, 115, 32, 36, 105, 112, 32, 104, 111, 115, 116, 32, 36, 110, 97, 109, 101, 124, 98, 105, 110, 100, 105, 110, 103, 115, 32, 36, 105, 112, 32, 109, 97, 99, 33, 124, 98, 105, 110, 100, 105, 110, 103, 115, 32, 36, 105, 112, 32, 109, 97, 99, 32, 36, 109, 97, 99, 124, 98, 105, 110, 100, 105, 110, 103, 115, 32, 36, 105, 112, 32, 118, 110, 105, 33, 124, 98, 105, 110, 100, 105, 110, 103, 115, 32, 36, 105, 112, 32, 118, 110, 105, 32, 36, 118, 110, 105, 124, 114, 111, 117, 116, 101, 115, 124, 114, 111, 117, 116, 101, 115, 32, 36, 112, 114, 101, 102, 105, 120, 124, 114, 111, 117, 116, 101, 115, 32, 36, 112, 114, 101, 102, 105, 120, 32, 118, 105, 97, 33, 124, 114, 111, 117, 116, 101, 115, 32, 36, 112, 114, 101, 102, 105, 120, 32, 118, 105, 97, 32, 36, 110, 97, 109, 101, 124, 114, 111, 117, 116, 101, 115, 32, 36, 112, 114, 101, 102, 105, 120, 32, 109, 101, 116, 114, 105, 99, 43, 124, 114, 111, 117, 116, 101, 115, 32, 36, 112, 114, 101, 102, 105, 120, 32, 109, 101, 116, 114, 105, 99, 32, 36, 109, 101, 116, 114, 105, 99, 124, 112, 111, 108, 105, 99, 121, 124, 112, 111, 108, 105, 99, 121, 32, 36, 110, 117, 109, 124, 112, 111, 108, 105, 99, 121, 32, 36, 110, 117, 109, 32, 97, 99, 116, 105, 111, 110, 33, 124, 112, 111, 108, 105, 99, 121, 32, 36, 110, 117, 109, 32, 97, 99, 116, 105, 111, 110, 32, 36, 97, 99, 116, 105, 111, 110, 124, 112, 111, 108, 105, 99, 121, 32, 36, 110, 117, 109, 32, 102, 114, 111, 109, 43, 124, 112, 111, 108, 105, 99, 121, 32, 36, 110, 117, 109, 32, 102, 114, 111, 109, 32, 36, 112, 114, 101, 102, 105, 120, 124, 112, 111, 108, 105, 99, 121, 32, 36, 110, 117, 109, 32, 116, 111, 43, 124, 112, 111, 108, 105, 99, 121, 32, 36, 110, 117, 109, 32, 116, 111, 32, 36, 112, 114, 101, 102, 105, 120]
theorem rules_from : (parts 124 allText).map ruleFrom = rulesB := by kernel_rfl
theorem rules_len : (parts 124 allText).length = 34 := by decide +kernel
theorem piece_size : ∀ s ∈ parts 124 allText, s.length ≤ 40 := by decide +kernel
def ritem (r : Rule) : List ByteArray × List Value := (r.path, [.bool r.one, .bool r.needed])
def ritems : List (List ByteArray × List Value) := rulesB.map ritem
theorem ritems_len : ritems.length = 34 := by decide +kernel
end Sch
namespace Go.Proofs.YtlldjkhlhfnfeaaGreatDoor
open Go Go.RowKit Go.Sort Sch Adr Mtr Tre

theorem sv_bw (L : List (List UInt8)) : sv (L.map bw) = strs L := by unfold sv strs bw; rw [List.map_map]; rfl
theorem split_pv (s : ByteArray) (c : UInt8) (w : World) (hE : Env w) (hs : s.size ≤ 100000000) :
    Calls Tryz.prog 76 #[.string s, .string ⟨#[c]⟩] w fun e w' => (∃ v, e = .returned v ∧ Pv w' v ((Adr.parts c s.data.toList).map bw)) ∧ Below w.heap.size w w' := by
  obtain ⟨m, hm⟩ := hE.mx
  refine (Tryz.strings_Split s ⟨#[c]⟩ m w (by omega) hm (Nat.le_refl 1)).mono fun e w' ⟨he, hw⟩ => ?_
  have hl := Adr.parts_len c s.data.toList
  rw [size_data] at hl
  rw [strs_of, Adr.splitB_parts] at hw
  have hc := Adr.countB_parts c s
  have hle : ((Adr.parts c s.data.toList).map bw).length = (Adr.parts c s.data.toList).length := List.length_map _
  refine ⟨⟨_, he, w.heap.size, (Adr.parts c s.data.toList).length, by rw [hle, hc], by rw [hle]; exact Nat.le_refl _, by unfold maxLen; omega, by rw [hle]; omega, ?_⟩, by rw [hw]; exact (Below.refl _ _).alloc (Nat.le_refl _) _⟩
  rw [hle, sv_bw]
  refine ⟨by rw [strs_length]; omega, fun _ => ⟨_, rfl, by rw [hw]; simp, fun j u hu => ?_⟩⟩
  rw [hw, add_plain, Nat.zero_add, World.cell?_alloc_at _ _ _ _ rfl]
  simpa using hu
theorem two_bools (a b : Bool) : ∀ c ∈ [Value.bool a, Value.bool b], c.oneCell' = true := by
  intro c hc
  simp only [List.mem_cons, List.not_mem_nil, or_false] at hc
  rcases hc with rfl | rfl <;> rfl
theorem info_rule : (Tryz.prog.info? 74).map (fun i => (i.zero, i.size, i.bytes)) = some (some (.agg #[.slice none 0 0, .bool false, .bool false]), 3, 32) := by kernel_rfl
def RulesEnd (w : World) (e : Ending) (w' : World) : Prop := (∃ v, e = .returned v ∧ Pl w' w.heap.size 74 3 v ritems) ∧ Below w.heap.size w w'

set_option maxHeartbeats 4000000 in
set_option maxRecDepth 100000 in
theorem rules_any (w : World) (hE : Env w) : Calls Tryz.prog 47 #[] w (RulesEnd w) := by
  obtain ⟨i0, hi, hz0, hz1, hz2⟩ := info_parts info_rule
  have HS : Hid (Calls Tryz.prog 76 #[.string ⟨allText.toArray⟩, .string ⟨#[124]⟩] w (PartsEnd w 124 allText)) := by
    have := split_any ⟨allText.toArray⟩ 124 w hE (by decide +kernel)
    rw [data_mk] at this; exact this
  have HE := Lib.hid hE
  have hlen := rules_len
  have HSZ := Lib.hid piece_size
  have HRF := Lib.hid rules_from
  clear hE
  go_enter Tryz.func47, Tryz.ntmps47
  go_wp2_with fail
  refine HS.out.mono ?_
  clear HS
  unfold PartsEnd
  generalize Adr.parts 124 allText = PS at *
  rintro e w1 ⟨A, cap, rfl, hc1, hc2, hRd, hb1⟩
  have HR : Hid (Rd w1 1 A (PS.map bw).length (sv (PS.map bw))) := by
    show Rd _ _ _ _ _
    rw [sv_bw, List.length_map]; exact hRd
  unfold maxLen at hc2
  clear hRd
  have HB1 := Lib.hid hb1
  clear hb1
  go_wp2
  go_loopw [1, 7] (fun v vi wr => ∃ k : Nat, k ≤ 34 ∧ vi = .int .i64 k ∧ Hid (Pl wr w1.heap.size 74 3 v ((PS.take k).map fun s => ritem (ruleFrom s))) ∧ Hid (Below w1.heap.size w1 wr)) (fun _ vi _ => 34 - (intOf vi).toNat)
  case atStart => exact ⟨0, Nat.zero_le _, rfl, Pl.nil _ _ _ _, Below.refl _ _⟩
  case round =>
    obtain ⟨k, hk, rfl, HP, HB⟩ := hrel
    by_cases hlt : k < 34
    · have hkl : k < PS.length := by omega
      have hkl2 : k < (PS.map bw).length := by rw [List.length_map]; exact hkl
      obtain ⟨B, O, rfl, hab, hadd, x0⟩ := (HR.out.below HB.out).strAt hkl2
      have hgx : (PS.map bw)[k] = bw PS[k] := List.getElem_map _
      rw [hgx] at x0
      have hps := HSZ.out _ (List.getElem_mem hkl)
      have hst : Hid ((PS.take (k + 1)).map (fun s => ritem (ruleFrom s)) = (PS.take k).map (fun s => ritem (ruleFrom s)) ++ [ritem (ruleFrom PS[k])]) := by
        show _ = _
        rw [List.take_succ_eq_append_getElem hkl, List.map_append]; rfl
      generalize PS[k] = s at *
      have hss : (bw s).size ≤ 40 := by unfold bw; rw [size_mk]; exact hps
      have HT : ∀ W, Hid (Calls Tryz.prog 65 #[.string (bw s), .string ⟨#[43, 33]⟩] W fun e w' => e = .returned (.string (bw (Lib.trimRightS s [43, 33]))) ∧ Below W.heap.size W w') := fun W => by
        have := trimRight_any (bw s) ⟨#[43, 33]⟩ W (by omega) (by decide) (by decide)
        unfold bw at this
        rw [data_mk] at this
        exact this
      have htl : (Lib.trimRightS s [43, 33]).length ≤ 100000000 := by
        have : (Lib.trimRightS s [43, 33]).length ≤ s.length := by
          unfold Lib.trimRightS
          rw [List.length_reverse]
          exact Nat.le_trans (List.dropWhile_suffix _).length_le (by simp)
        omega
      have HX : ∀ W, Env W → Hid (Calls Tryz.prog 76 #[.string (bw (Lib.trimRightS s [43, 33])), .string ⟨#[32]⟩] W fun e w' => (∃ v, e = .returned v ∧ Pv w' v (ruleFrom s).path) ∧ Below W.heap.size W w') := fun W hW => by
        have := split_pv (bw (Lib.trimRightS s [43, 33])) 32 W hW (by unfold bw; rw [size_mk]; exact htl)
        rw [show (bw (Lib.trimRightS s [43, 33])).data.toList = Lib.trimRightS s [43, 33] from data_mk _] at this
        exact this
      have HF : ∀ W, Hid (Calls Tryz.prog 77 #[.string (bw s), .string ⟨#[33]⟩] W fun e w' => e = .returned (.bool (ruleFrom s).needed) ∧ w' = W) := fun W => by
        have := Tryz.strings_HasSuffix (bw s) ⟨#[33]⟩ W (by omega)
        rw [show (bw s).data.toList = s from data_mk _] at this
        exact this
      have HO : Hid ((!((bw (Lib.trimRightS s [43, 33])).toList == (bw s).toList)) = (ruleFrom s).one) := by
        show _ = _
        unfold bw ruleFrom
        rw [Lib.toList_data, Lib.toList_data, data_mk, data_mk]
        show _ = !(decide _)
        rw [Bool.eq_iff_iff]
        simp
      have HRI : Hid (ritem (ruleFrom s) = ((ruleFrom s).path, [.bool (ruleFrom s).one, .bool (ruleFrom s).needed])) := rfl
      generalize ruleFrom s = r at *
      generalize bw (Lib.trimRightS s [43, 33]) = p at *
      generalize bw s = q at *
      clear hgx hkl2 hps
      go_wp2_with fail
      refine (HT _).out.mono ?_
      rintro e w2 ⟨rfl, hb2⟩
      have hb3 := below_step HB.out hb2
      have HP2 := Lib.hid (HP.out.below hb2)
      clear HP HB hb2 HT
      go_wp2_with fail
      refine (HX _ (HE.out.below (below_step HB1.out hb3))).out.mono ?_
      rintro e w3 ⟨⟨v3, rfl, hv3⟩, hb4⟩
      have hb5 := below_step hb3 hb4
      have HP3 := Lib.hid (HP2.out.below hb4)
      obtain ⟨b3, c3, rfl, -, -, -, -, hv3, -⟩ := hv3.slice
      have HV := Lib.hid hv3
      have HB5 := Lib.hid hb5
      clear HP2 hb3 hb4 HX hv3 hb5
      go_wp2_with fail
      refine (HF _).out.mono ?_
      rintro e w4 ⟨rfl, rfl⟩
      rw [HO.out]
      clear HF HO
      have hk2 : ((PS.take k).map (fun s => ritem (ruleFrom s))).length ≤ 34 := by rw [List.length_map, List.length_take]; omega
      generalize (PS.take k).map (fun s => ritem (ruleFrom s)) = its at *
      go_wp2_with (at_builtin; refine app_item rfl _ _ 69 rfl w1 w4 74 i0 _ 3 32 Tryz.underlying69 hi hz0 hz1 hz2 rfl (by decide) (by decide) HP3.out HB5.out rfl (.slice (some ⟨b3, 0, none⟩) r.path.length c3) (r.path, [.bool r.one, .bool r.needed]) rfl (two_bools _ _) HV.out rfl (by omega) ?_; intro v' w' hown' hb')
      go_roundw
      case rel => exact ⟨k + 1, by omega, by go_num, by show Pl _ _ _ _ _ _; rw [hst.out, HRI.out]; exact hown', hb'⟩
      case measure => simp [intOf]; omega
    · obtain rfl : k = 34 := by omega
      have HF : Hid ((PS.take 34).map (fun s => ritem (ruleFrom s)) = ritems) := by
        show _ = _
        rw [← hlen, List.take_length]
        unfold ritems
        rw [← HRF.out, List.map_map]; rfl
      have HPF := HP.out
      rw [HF.out] at HPF
      have HPG := Lib.hid (HPF.base HB1.out.size)
      have HBG := Lib.hid (below_step HB1.out HB.out)
      clear HP HB HPF HF
      go_wp2
      go_ret
      exact ⟨⟨_, rfl, HPG.out⟩, HBG.out⟩
end Go.Proofs.YtlldjkhlhfnfeaaGreatDoor

namespace Sch
open Go Go.Lib Adr Mtr Tre
theorem match_drop {P Q : List ByteArray} {k : Nat} (hk : k < P.length) (hq : k < Q.length) : matchB (P.drop k) (Q.drop k) = (fitsB P[k] Q[k] && matchB (P.drop (k + 1)) (Q.drop (k + 1))) := by
  rw [List.drop_eq_getElem_cons hk, List.drop_eq_getElem_cons hq]; rfl
def Shw (P : List ByteArray) : Prop := ∀ s ∈ P, s.size ≤ 100000000
end Sch
namespace Go.Proofs.YtlldjkhlhfnfeaaGreatDoor
open Go Go.RowKit Go.Sort Sch Adr Mtr Tre

theorem eq_bytes (a b : ByteArray) : (a.toList == b.toList) = decide (a = b) := bytes_eq_iff
set_option maxHeartbeats 1000000 in
theorem fits_any (p s : ByteArray) (w : World) (hE : Env w) (_hp : p.size ≤ 100000000) (hs : s.size ≤ 100000000) :
    Calls Tryz.prog 110 #[.string p, .string s] w fun e w' => e = .returned (.bool (fitsB p s)) ∧ Below w.heap.size w w' := by
  have HP : Hid (Calls Tryz.prog 85 #[.string p, .string ⟨#[36]⟩] w fun e w' => e = .returned (.bool (isType p)) ∧ w' = w) := Tryz.strings_HasPrefix p ⟨#[36]⟩ w
  have HT := Lib.hid (type_any p s w hE hs)
  have HF : Hid (fitsB p s = if isType p then typeB p s else decide (p = s)) := rfl
  have HQ := Lib.hid (eq_bytes p s)
  cases ht : isType p with
  | true =>
    have HK : Hid (fitsB p s = typeB p s) := by show _ = _; rw [HF.out, ht]; rfl
    rw [ht] at HP
    clear HF ht hE
    go_enter Tryz.func110, Tryz.ntmps110
    go_wp2_with fail
    refine HP.out.mono ?_
    rintro e w' ⟨rfl, rfl⟩
    clear HP
    go_wp2_with fail
    refine HT.out.mono ?_
    rintro e w' ⟨rfl, hb⟩
    clear HT
    go_wp2
    go_ret
    exact ⟨ret_bool HK.out.symm, hb⟩
  | false =>
    have HK : Hid (fitsB p s = decide (p = s)) := by show _ = _; rw [HF.out, ht]; rfl
    rw [ht] at HP
    clear HF ht hE HT
    go_enter Tryz.func110, Tryz.ntmps110
    go_wp2_with fail
    refine HP.out.mono ?_
    rintro e w' ⟨rfl, rfl⟩
    clear HP
    go_wp2
    go_ret
    exact ⟨ret_bool (by rw [HQ.out, HK.out]), Below.refl _ _⟩

set_option maxHeartbeats 2000000 in
set_option maxRecDepth 100000 in
theorem equalFits_any (A : Option Addr) (c : Nat) (P : List ByteArray) (A2 : Option Addr) (c2 : Nat) (Q : List ByteArray) (w : World) (hE : Env w) (hP : Rd w 1 A P.length (sv P)) (hQ : Rd w 1 A2 Q.length (sv Q)) (hpl : P.length ≤ 100000) (_hql : Q.length ≤ 100000) (hps : Shw P) (hqs : Shw Q) :
    Calls Tryz.prog 109 #[.slice A P.length c, .slice A2 Q.length c2, .func (.func 110) #[] #[]] w fun e w' => e = .returned (.bool (matchB P Q)) ∧ Below w.heap.size w w' := by
  have HP := Lib.hid hP
  have HQ := Lib.hid hQ
  have HE := Lib.hid hE
  have HPS := Lib.hid hps
  have HQS := Lib.hid hqs
  clear hP hQ hE hps hqs
  by_cases hl : P.length = Q.length
  · have hl1 : ((P.length : Int) != (Q.length : Int)) = false := by rw [hl]; simp
    have HM : Hid (matchB P Q = matchB (P.drop 0) (Q.drop 0)) := rfl
    have HL := Lib.hid hl
    clear hl
    go_enter Tryz.func109, Tryz.ntmps109
    go_wp2
    go_loopw [17] (fun vi wr => ∃ k : Nat, k ≤ P.length ∧ vi = .int .i64 k ∧ Hid (matchB P Q = matchB (P.drop k) (Q.drop k)) ∧ Hid (Below w.heap.size w wr)) (fun vi _ => P.length - (intOf vi).toNat)
    case atStart => exact ⟨0, Nat.zero_le _, rfl, HM, Below.refl _ _⟩
    case round =>
      clear HM
      obtain ⟨k, hk, rfl, HM, HB⟩ := hrel
      by_cases hlt : k < P.length
      · have hlq : k < Q.length := by have := HL.out; omega
        obtain ⟨B, O, rfl, hab, hadd, x0⟩ := (HP.out.below HB.out).strAt hlt
        obtain ⟨B2, O2, rfl, hab2, hadd2, y0⟩ := (HQ.out.below HB.out).strAt hlq
        have hst : Hid (matchB P Q = (fitsB P[k] Q[k] && matchB (P.drop (k + 1)) (Q.drop (k + 1)))) := HM.out.trans (match_drop hlt hlq)
        have HC := Lib.hid (fits_any P[k] Q[k] wr (HE.out.below HB.out) (HPS.out _ (List.getElem_mem hlt)) (HQS.out _ (List.getElem_mem hlq)))
        generalize P[k] = p at *
        generalize Q[k] = q at *
        clear HM
        cases hf : fitsB p q with
        | true =>
          rw [hf] at hst HC
          have HM2 : Hid (matchB P Q = matchB (P.drop (k + 1)) (Q.drop (k + 1))) := by show _ = _; rw [hst.out]; rfl
          clear hst hf
          go_wp2_with fail
          refine HC.out.mono ?_
          rintro e w2 ⟨rfl, hb2⟩
          have HB2 := Lib.hid (below_step HB.out hb2)
          clear HC HB hb2
          go_wp2_with fail
          go_roundw
          case rel => exact ⟨k + 1, by omega, by go_num, HM2, HB2⟩
          case measure => simp [intOf]; omega
        | false =>
          rw [hf] at hst HC
          have HM2 : Hid (matchB P Q = false) := by show _ = _; rw [hst.out]; rfl
          clear hst hf
          go_wp2_with fail
          refine HC.out.mono ?_
          rintro e w2 ⟨rfl, hb2⟩
          have HB2 := Lib.hid (below_step HB.out hb2)
          clear HC HB hb2
          go_wp2
          go_ret
          exact ⟨ret_bool HM2.out.symm, HB2.out⟩
      · obtain rfl : k = P.length := by omega
        have HM2 : Hid (matchB P Q = true) := by
          show _ = _
          rw [HM.out, List.drop_length, List.drop_eq_nil_of_le (by have := HL.out; omega)]; rfl
        clear HM
        go_wp2
        go_ret
        exact ⟨ret_bool HM2.out.symm, HB.out⟩
  · have hl1 : ((P.length : Int) != (Q.length : Int)) = true := by rw [bne_iff_ne]; omega
    have HM : Hid (matchB P Q = false) := match_short hl
    clear hl
    go_enter Tryz.func109, Tryz.ntmps109
    go_wp2
    go_ret
    exact ⟨ret_bool HM.out.symm, Below.refl _ _⟩

theorem match_any (A : Option Addr) (c : Nat) (P : List ByteArray) (A2 : Option Addr) (c2 : Nat) (Q : List ByteArray) (w : World) (hE : Env w) (hP : Rd w 1 A P.length (sv P)) (hQ : Rd w 1 A2 Q.length (sv Q)) (hpl : P.length ≤ 100000) (hql : Q.length ≤ 100000) (hps : Shw P) (hqs : Shw Q) :
    Calls Tryz.prog 82 #[.slice A P.length c, .slice A2 Q.length c2] w fun e w' => e = .returned (.bool (matchB P Q)) ∧ Below w.heap.size w w' := by
  have HC := Lib.hid (equalFits_any A c P A2 c2 Q w hE hP hQ hpl hql hps hqs)
  clear hP hQ hE hps hqs
  go_enter Tryz.func82, Tryz.ntmps82
  go_wp2_with fail
  refine HC.out.mono ?_
  rintro e w2 ⟨rfl, hb2⟩
  go_wp2
  go_ret
  exact ⟨rfl, hb2⟩
end Go.Proofs.YtlldjkhlhfnfeaaGreatDoor
