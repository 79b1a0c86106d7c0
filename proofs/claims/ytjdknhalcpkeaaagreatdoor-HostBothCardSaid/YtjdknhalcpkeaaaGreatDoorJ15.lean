/- Walks: schema.name, Type and the reference's. -/
import Derived.Test.YtjdknhalcpkeaaaGreatDoorJ13
import Derived.Test.YtjdknhalcpkeaaaGreatDoorJ11
import Derived.Test.YtjdknhalcpkeaaaGreatDoorJ14
import Derived.Test.YtjdknhalcpkeaaaGreatDoorJ10
namespace Sch
open Go Go.Lib Adr Mtr Tre
def nmSet : List UInt8 := [97, 98, 99, 100, 101, 102, 103, 104, 105, 106, 107, 108, 109, 110, 111, 112, 113, 114, 115, 116, 117, 118, 119, 120, 121, 122, 48, 49, 50, 51, 52, 53, 54, 55, 56, 57, 45]
theorem nm_has (c : UInt8) : nmSet.contains c = isNm c := by
 have : ∀ n : Fin 256, nmSet.contains (UInt8.ofNat n) = isNm (UInt8.ofNat n) := by decide +kernel
 have h := this ⟨c.toNat, c.toNat_lt⟩
 simpa using h
theorem trim_nm (l : List UInt8) : (trimS l nmSet).isEmpty = l.all isNm := by
 rw [Bool.eq_iff_iff, List.isEmpty_iff, trim_nil, show (fun x => nmSet.contains x) = isNm from funext nm_has]
theorem type_eq (k : ByteArray) (l : List UInt8) : (k.toList == l) = decide (k = ⟨l.toArray⟩) := by
 rw [Lib.toList_data, Bool.eq_iff_iff, beq_iff_eq, decide_eq_true_eq]
 constructor
 · rintro rfl; exact (Lib.mk_data k).symm
 · rintro rfl; simp
end Sch
namespace Go.Proofs.YtjdknhalcpkeaaaGreatDoor
open Go Go.RowKit Sch Adr Mtr
theorem isEmpty_not {s : ByteArray} (h : s.size = 0) : s.toList.isEmpty = true := by
 rw [Lib.toList_data, List.isEmpty_iff]; exact List.length_eq_zero_iff.1 (by rw [size_data]; exact h)
set_option maxHeartbeats 1000000 in
theorem name_any (s : ByteArray) (w : World) (hs : s.size ≤ 100000000) :
 Calls Tryz.prog 192 #[.string s] w fun e w' => e = .returned (.bool (nameB s.data.toList)) ∧ Below w.heap.size w w' := by
 have HX : Hid (nameB s.data.toList = (decide (1 ≤ s.data.toList.length) && decide (s.data.toList.length ≤ 16) && isLow (s.data.toList.getD 0 0) && s.data.toList.all isNm)) := rfl
 have hsz := size_data s
 have HZ := Lib.hid hsz
 clear hsz
 by_cases h0 : s.size = 0
 · have he := isEmpty_not h0
   have he2 : s.toList = [] := by simpa using he
   have HK : Hid (nameB s.data.toList = false) := by show _ = _; rw [HX.out, HZ.out, decide_eq_false (by omega)]; rfl
   clear HX h0
   go_enter Tryz.func192, Tryz.ntmps192
   go_wp2
   go_ret
   exact ⟨ret_bool HK.out.symm, Below.refl _ _⟩
 · have hp : 0 < s.size := by omega
   have he := nonempty_list hp
   have he2 : ¬ s.toList = [] := by simpa using he
   by_cases h16 : s.size ≤ 16
   · have hg : Hid (s.data.toList.getD 0 0 = s[0]) := by
      show _ = _
      rw [List.getD_eq_getElem?_getD, List.getElem?_eq_getElem (by rw [HZ.out]; exact hp)]; rfl
     have HX1 : Hid (nameB s.data.toList = (isLow s[0] && s.data.toList.all isNm)) := by
      show _ = _
      rw [HX.out, HZ.out, hg.out, decide_eq_true (p := 1 ≤ s.size) (by omega), decide_eq_true h16]; simp
     have HL : Hid (isLow s[0] = (decide (97 ≤ s[0].toNat) && decide (s[0].toNat ≤ 122))) := rfl
     have h16' : decide ((s.size : Int) ≤ 16) = true := decide_eq_true (by omega)
     by_cases h1 : 97 ≤ s[0].toNat
     · by_cases h2 : s[0].toNat ≤ 122
       · have HX2 : Hid (nameB s.data.toList = s.data.toList.all isNm) := by
          show _ = _
          rw [HX1.out, HL.out, decide_eq_true h1, decide_eq_true h2]; rfl
         have HT := Lib.hid (trim_any s ⟨#[97, 98, 99, 100, 101, 102, 103, 104, 105, 106, 107, 108, 109, 110, 111, 112, 113, 114, 115, 116, 117, 118, 119, 120, 121, 122, 48, 49, 50, 51, 52, 53, 54, 55, 56, 57, 45]⟩ w hs (by decide) (by decide))
         have HE : Hid ((⟨(Lib.trimS s.data.toList nmSet).toArray⟩ : ByteArray).toList.isEmpty = s.data.toList.all isNm) := by show _ = _; rw [isEmpty_mk]; exact trim_nm _
         have HT2 : Hid (Calls Tryz.prog 206 #[.string s, .string ⟨#[97, 98, 99, 100, 101, 102, 103, 104, 105, 106, 107, 108, 109, 110, 111, 112, 113, 114, 115, 116, 117, 118, 119, 120, 121, 122, 48, 49, 50, 51, 52, 53, 54, 55, 56, 57, 45]⟩] w fun e w' => e = .returned (.string ⟨(Lib.trimS s.data.toList nmSet).toArray⟩) ∧ Below w.heap.size w w') := HT.out
         clear HX HX1 HL HT hg h0
         generalize (⟨(Lib.trimS s.data.toList nmSet).toArray⟩ : ByteArray) = t at *
         generalize s.data.toList.all isNm = b at *
         go_enter Tryz.func192, Tryz.ntmps192
         cases b with
         | true =>
           have ht : t.toList.isEmpty = true := HE.out
           have ht2 : t.toList = [] := by simpa using ht
           go_wp2_with fail
           refine HT2.out.mono ?_
           rintro e w1 ⟨rfl, hb1⟩
           go_wp2
           go_ret
           exact ⟨ret_bool HX2.out.symm, hb1⟩
         | false =>
           have ht : t.toList.isEmpty = false := HE.out
           have ht2 : ¬ t.toList = [] := by simpa using ht
           go_wp2_with fail
           refine HT2.out.mono ?_
           rintro e w1 ⟨rfl, hb1⟩
           go_wp2
           go_ret
           exact ⟨ret_bool HX2.out.symm, hb1⟩
       · have HK : Hid (nameB s.data.toList = false) := by show _ = _; rw [HX1.out, HL.out, decide_eq_false h2]; simp
         clear HX HX1 HL hg h0
         go_enter Tryz.func192, Tryz.ntmps192
         go_wp2
         go_ret
         exact ⟨ret_bool HK.out.symm, Below.refl _ _⟩
     · have HK : Hid (nameB s.data.toList = false) := by show _ = _; rw [HX1.out, HL.out, decide_eq_false h1]; simp
       clear HX HX1 HL hg h0
       go_enter Tryz.func192, Tryz.ntmps192
       go_wp2
       go_ret
       exact ⟨ret_bool HK.out.symm, Below.refl _ _⟩
   · have h16' : decide ((s.size : Int) ≤ 16) = false := decide_eq_false (by omega)
     have HK : Hid (nameB s.data.toList = false) := by show _ = _; rw [HX.out, HZ.out, decide_eq_false h16]; simp
     clear HX h0
     go_enter Tryz.func192, Tryz.ntmps192
     go_wp2
     go_ret
     exact ⟨ret_bool HK.out.symm, Below.refl _ _⟩
set_option maxHeartbeats 4000000 in
set_option maxRecDepth 100000 in
theorem type_any (k s : ByteArray) (w : World) (hE : Env w) (hs : s.size ≤ 100000000) :
 Calls Tryz.prog 169 #[.string k, .string s] w fun e w' => e = .returned (.bool (typeB k s)) ∧ Below w.heap.size w w' := by
 by_cases h0 : k = tName
 · skip
   have q0 : (k.toList == [36, 110, 97, 109, 101]) = true := (type_eq k [36, 110, 97, 109, 101]).trans (decide_eq_true h0)
   have p0 : k.toList = [36, 110, 97, 109, 101] := by simpa using q0
   have HK : Hid (typeB k s = (nameB s.data.toList)) := by show _ = _; unfold typeB; rw [if_pos h0]
   have HC := Lib.hid (name_any s w hs)
   generalize nameB s.data.toList = b at *
   clear h0 hE
   go_enter Tryz.func169, Tryz.ntmps169
   go_wp2_with fail
   refine HC.out.mono ?_
   rintro e w1 ⟨rfl, hb1⟩
   clear HC
   go_wp2
   go_ret
   exact ⟨ret_bool HK.out.symm, hb1⟩
 by_cases h1 : k = tIp
 · skip
   have q0 : (k.toList == [36, 110, 97, 109, 101]) = false := (type_eq k [36, 110, 97, 109, 101]).trans (decide_eq_false h0)
   have p0 : ¬ k.toList = [36, 110, 97, 109, 101] := by simpa using q0
   have q1 : (k.toList == [36, 105, 112]) = true := (type_eq k [36, 105, 112]).trans (decide_eq_true h1)
   have p1 : k.toList = [36, 105, 112] := by simpa using q1
   have HK : Hid (typeB k s = (decide (0 ≤ ip s.data.toList))) := by show _ = _; unfold typeB; rw [if_neg h0, if_pos h1]
   have HC := Lib.hid (ip_any s w hE hs)
   unfold okRet at HC
   generalize decide (0 ≤ ip s.data.toList) = b at *
   clear h0 h1 hE
   go_enter Tryz.func169, Tryz.ntmps169
   go_wp2_with fail
   refine HC.out.mono ?_
   rintro e w1 ⟨rfl, hb1⟩
   clear HC
   go_wp2
   go_ret
   exact ⟨ret_bool HK.out.symm, hb1⟩
 by_cases h2 : k = tPrefix
 · skip
   have q0 : (k.toList == [36, 110, 97, 109, 101]) = false := (type_eq k [36, 110, 97, 109, 101]).trans (decide_eq_false h0)
   have p0 : ¬ k.toList = [36, 110, 97, 109, 101] := by simpa using q0
   have q1 : (k.toList == [36, 105, 112]) = false := (type_eq k [36, 105, 112]).trans (decide_eq_false h1)
   have p1 : ¬ k.toList = [36, 105, 112] := by simpa using q1
   have q2 : (k.toList == [36, 112, 114, 101, 102, 105, 120]) = true := (type_eq k [36, 112, 114, 101, 102, 105, 120]).trans (decide_eq_true h2)
   have p2 : k.toList = [36, 112, 114, 101, 102, 105, 120] := by simpa using q2
   have HK : Hid (typeB k s = (decide (0 ≤ (pre s.data.toList).1))) := by show _ = _; unfold typeB; rw [if_neg h0, if_neg h1, if_pos h2]
   have HC := Lib.hid (pre_any s w hE hs)
   unfold preRet at HC
   generalize decide (0 ≤ (pre s.data.toList).1) = b at *
   clear h0 h1 h2 hE
   go_enter Tryz.func169, Tryz.ntmps169
   go_wp2_with fail
   refine HC.out.mono ?_
   rintro e w1 ⟨rfl, hb1⟩
   clear HC
   go_wp2
   go_ret
   exact ⟨ret_bool HK.out.symm, hb1⟩
 by_cases h3 : k = tMac
 · skip
   have q0 : (k.toList == [36, 110, 97, 109, 101]) = false := (type_eq k [36, 110, 97, 109, 101]).trans (decide_eq_false h0)
   have p0 : ¬ k.toList = [36, 110, 97, 109, 101] := by simpa using q0
   have q1 : (k.toList == [36, 105, 112]) = false := (type_eq k [36, 105, 112]).trans (decide_eq_false h1)
   have p1 : ¬ k.toList = [36, 105, 112] := by simpa using q1
   have q2 : (k.toList == [36, 112, 114, 101, 102, 105, 120]) = false := (type_eq k [36, 112, 114, 101, 102, 105, 120]).trans (decide_eq_false h2)
   have p2 : ¬ k.toList = [36, 112, 114, 101, 102, 105, 120] := by simpa using q2
   have q3 : (k.toList == [36, 109, 97, 99]) = true := (type_eq k [36, 109, 97, 99]).trans (decide_eq_true h3)
   have p3 : k.toList = [36, 109, 97, 99] := by simpa using q3
   have HK : Hid (typeB k s = (decide (0 ≤ mac s.data.toList))) := by show _ = _; unfold typeB; rw [if_neg h0, if_neg h1, if_neg h2, if_pos h3]
   have HC := Lib.hid (mac_any s w hE hs)
   unfold okRet at HC
   generalize decide (0 ≤ mac s.data.toList) = b at *
   clear h0 h1 h2 h3 hE
   go_enter Tryz.func169, Tryz.ntmps169
   go_wp2_with fail
   refine HC.out.mono ?_
   rintro e w1 ⟨rfl, hb1⟩
   clear HC
   go_wp2
   go_ret
   exact ⟨ret_bool HK.out.symm, hb1⟩
 by_cases h4 : k = tVni
 · skip
   have q0 : (k.toList == [36, 110, 97, 109, 101]) = false := (type_eq k [36, 110, 97, 109, 101]).trans (decide_eq_false h0)
   have p0 : ¬ k.toList = [36, 110, 97, 109, 101] := by simpa using q0
   have q1 : (k.toList == [36, 105, 112]) = false := (type_eq k [36, 105, 112]).trans (decide_eq_false h1)
   have p1 : ¬ k.toList = [36, 105, 112] := by simpa using q1
   have q2 : (k.toList == [36, 112, 114, 101, 102, 105, 120]) = false := (type_eq k [36, 112, 114, 101, 102, 105, 120]).trans (decide_eq_false h2)
   have p2 : ¬ k.toList = [36, 112, 114, 101, 102, 105, 120] := by simpa using q2
   have q3 : (k.toList == [36, 109, 97, 99]) = false := (type_eq k [36, 109, 97, 99]).trans (decide_eq_false h3)
   have p3 : ¬ k.toList = [36, 109, 97, 99] := by simpa using q3
   have q4 : (k.toList == [36, 118, 110, 105]) = true := (type_eq k [36, 118, 110, 105]).trans (decide_eq_true h4)
   have p4 : k.toList = [36, 118, 110, 105] := by simpa using q4
   have HK : Hid (typeB k s = (numIn s.data.toList 1 16777215)) := by show _ = _; unfold typeB; rw [if_neg h0, if_neg h1, if_neg h2, if_neg h3, if_pos h4]
   have HC := Lib.hid (num_any s 1 16777215 w hE (by omega))
   unfold numRet at HC
   generalize (if numIn s.data.toList 1 16777215 = true then num s.data.toList else 0) = z at HC
   generalize numIn s.data.toList 1 16777215 = b at *
   clear h0 h1 h2 h3 h4 hE
   go_enter Tryz.func169, Tryz.ntmps169
   go_wp2_with fail
   refine HC.out.mono ?_
   rintro e w1 ⟨rfl, hb1⟩
   clear HC
   go_wp2
   go_ret
   exact ⟨ret_bool HK.out.symm, hb1⟩
 by_cases h5 : k = tNum
 · skip
   have q0 : (k.toList == [36, 110, 97, 109, 101]) = false := (type_eq k [36, 110, 97, 109, 101]).trans (decide_eq_false h0)
   have p0 : ¬ k.toList = [36, 110, 97, 109, 101] := by simpa using q0
   have q1 : (k.toList == [36, 105, 112]) = false := (type_eq k [36, 105, 112]).trans (decide_eq_false h1)
   have p1 : ¬ k.toList = [36, 105, 112] := by simpa using q1
   have q2 : (k.toList == [36, 112, 114, 101, 102, 105, 120]) = false := (type_eq k [36, 112, 114, 101, 102, 105, 120]).trans (decide_eq_false h2)
   have p2 : ¬ k.toList = [36, 112, 114, 101, 102, 105, 120] := by simpa using q2
   have q3 : (k.toList == [36, 109, 97, 99]) = false := (type_eq k [36, 109, 97, 99]).trans (decide_eq_false h3)
   have p3 : ¬ k.toList = [36, 109, 97, 99] := by simpa using q3
   have q4 : (k.toList == [36, 118, 110, 105]) = false := (type_eq k [36, 118, 110, 105]).trans (decide_eq_false h4)
   have p4 : ¬ k.toList = [36, 118, 110, 105] := by simpa using q4
   have q5 : (k.toList == [36, 110, 117, 109]) = true := (type_eq k [36, 110, 117, 109]).trans (decide_eq_true h5)
   have p5 : k.toList = [36, 110, 117, 109] := by simpa using q5
   have HK : Hid (typeB k s = (numIn s.data.toList 1 1000)) := by show _ = _; unfold typeB; rw [if_neg h0, if_neg h1, if_neg h2, if_neg h3, if_neg h4, if_pos h5]
   have HC := Lib.hid (num_any s 1 1000 w hE (by omega))
   unfold numRet at HC
   generalize (if numIn s.data.toList 1 1000 = true then num s.data.toList else 0) = z at HC
   generalize numIn s.data.toList 1 1000 = b at *
   clear h0 h1 h2 h3 h4 h5 hE
   go_enter Tryz.func169, Tryz.ntmps169
   go_wp2_with fail
   refine HC.out.mono ?_
   rintro e w1 ⟨rfl, hb1⟩
   clear HC
   go_wp2
   go_ret
   exact ⟨ret_bool HK.out.symm, hb1⟩
 by_cases h6 : k = tMetric
 · skip
   have q0 : (k.toList == [36, 110, 97, 109, 101]) = false := (type_eq k [36, 110, 97, 109, 101]).trans (decide_eq_false h0)
   have p0 : ¬ k.toList = [36, 110, 97, 109, 101] := by simpa using q0
   have q1 : (k.toList == [36, 105, 112]) = false := (type_eq k [36, 105, 112]).trans (decide_eq_false h1)
   have p1 : ¬ k.toList = [36, 105, 112] := by simpa using q1
   have q2 : (k.toList == [36, 112, 114, 101, 102, 105, 120]) = false := (type_eq k [36, 112, 114, 101, 102, 105, 120]).trans (decide_eq_false h2)
   have p2 : ¬ k.toList = [36, 112, 114, 101, 102, 105, 120] := by simpa using q2
   have q3 : (k.toList == [36, 109, 97, 99]) = false := (type_eq k [36, 109, 97, 99]).trans (decide_eq_false h3)
   have p3 : ¬ k.toList = [36, 109, 97, 99] := by simpa using q3
   have q4 : (k.toList == [36, 118, 110, 105]) = false := (type_eq k [36, 118, 110, 105]).trans (decide_eq_false h4)
   have p4 : ¬ k.toList = [36, 118, 110, 105] := by simpa using q4
   have q5 : (k.toList == [36, 110, 117, 109]) = false := (type_eq k [36, 110, 117, 109]).trans (decide_eq_false h5)
   have p5 : ¬ k.toList = [36, 110, 117, 109] := by simpa using q5
   have q6 : (k.toList == [36, 109, 101, 116, 114, 105, 99]) = true := (type_eq k [36, 109, 101, 116, 114, 105, 99]).trans (decide_eq_true h6)
   have p6 : k.toList = [36, 109, 101, 116, 114, 105, 99] := by simpa using q6
   have HK : Hid (typeB k s = (readOk s.data.toList)) := by show _ = _; unfold typeB; rw [if_neg h0, if_neg h1, if_neg h2, if_neg h3, if_neg h4, if_neg h5, if_pos h6]
   have HC := Lib.hid (read_any s w hE hs)
   unfold ReadEnd at HC
   generalize readOk s.data.toList = b at *
   clear h0 h1 h2 h3 h4 h5 h6 hE
   go_enter Tryz.func169, Tryz.ntmps169
   go_wp2_with fail
   refine HC.out.mono ?_
   rintro e w1 ⟨⟨f, rfl⟩, hb1⟩
   clear HC
   go_wp2
   go_ret
   exact ⟨ret_bool HK.out.symm, hb1⟩
 by_cases h7 : k = tAction
 · skip
   have q0 : (k.toList == [36, 110, 97, 109, 101]) = false := (type_eq k [36, 110, 97, 109, 101]).trans (decide_eq_false h0)
   have p0 : ¬ k.toList = [36, 110, 97, 109, 101] := by simpa using q0
   have q1 : (k.toList == [36, 105, 112]) = false := (type_eq k [36, 105, 112]).trans (decide_eq_false h1)
   have p1 : ¬ k.toList = [36, 105, 112] := by simpa using q1
   have q2 : (k.toList == [36, 112, 114, 101, 102, 105, 120]) = false := (type_eq k [36, 112, 114, 101, 102, 105, 120]).trans (decide_eq_false h2)
   have p2 : ¬ k.toList = [36, 112, 114, 101, 102, 105, 120] := by simpa using q2
   have q3 : (k.toList == [36, 109, 97, 99]) = false := (type_eq k [36, 109, 97, 99]).trans (decide_eq_false h3)
   have p3 : ¬ k.toList = [36, 109, 97, 99] := by simpa using q3
   have q4 : (k.toList == [36, 118, 110, 105]) = false := (type_eq k [36, 118, 110, 105]).trans (decide_eq_false h4)
   have p4 : ¬ k.toList = [36, 118, 110, 105] := by simpa using q4
   have q5 : (k.toList == [36, 110, 117, 109]) = false := (type_eq k [36, 110, 117, 109]).trans (decide_eq_false h5)
   have p5 : ¬ k.toList = [36, 110, 117, 109] := by simpa using q5
   have q6 : (k.toList == [36, 109, 101, 116, 114, 105, 99]) = false := (type_eq k [36, 109, 101, 116, 114, 105, 99]).trans (decide_eq_false h6)
   have p6 : ¬ k.toList = [36, 109, 101, 116, 114, 105, 99] := by simpa using q6
   have q7 : (k.toList == [36, 97, 99, 116, 105, 111, 110]) = true := (type_eq k [36, 97, 99, 116, 105, 111, 110]).trans (decide_eq_true h7)
   have p7 : k.toList = [36, 97, 99, 116, 105, 111, 110] := by simpa using q7
   have HK : Hid (typeB k s = (decide (s = wPermit) || decide (s = wDeny))) := by show _ = _; unfold typeB; rw [if_neg h0, if_neg h1, if_neg h2, if_neg h3, if_neg h4, if_neg h5, if_neg h6, if_pos h7]
   clear h0 h1 h2 h3 h4 h5 h6 h7 hE
   by_cases g1 : s = wPermit
   · have y1 : (s.toList == [112, 101, 114, 109, 105, 116]) = true := (type_eq s [112, 101, 114, 109, 105, 116]).trans (decide_eq_true g1)
     have z1 : s.toList = [112, 101, 114, 109, 105, 116] := by simpa using y1
     have HK2 : Hid (typeB k s = true) := by show _ = _; rw [HK.out, decide_eq_true g1]; rfl
     clear g1 HK
     go_enter Tryz.func169, Tryz.ntmps169
     go_wp2
     go_ret
     exact ⟨ret_bool HK2.out.symm, Below.refl _ _⟩
   · have y1 : (s.toList == [112, 101, 114, 109, 105, 116]) = false := (type_eq s [112, 101, 114, 109, 105, 116]).trans (decide_eq_false g1)
     have z1 : ¬ s.toList = [112, 101, 114, 109, 105, 116] := by simpa using y1
     by_cases g2 : s = wDeny
     · have y2 : (s.toList == [100, 101, 110, 121]) = true := (type_eq s [100, 101, 110, 121]).trans (decide_eq_true g2)
       have z2 : s.toList = [100, 101, 110, 121] := by simpa using y2
       have HK2 : Hid (typeB k s = true) := by show _ = _; rw [HK.out, decide_eq_true g2]; simp
       clear g1 g2 HK
       go_enter Tryz.func169, Tryz.ntmps169
       go_wp2
       go_ret
       exact ⟨ret_bool HK2.out.symm, Below.refl _ _⟩
     · have y2 : (s.toList == [100, 101, 110, 121]) = false := (type_eq s [100, 101, 110, 121]).trans (decide_eq_false g2)
       have z2 : ¬ s.toList = [100, 101, 110, 121] := by simpa using y2
       have HK2 : Hid (typeB k s = false) := by show _ = _; rw [HK.out, decide_eq_false g1, decide_eq_false g2]; rfl
       clear g1 g2 HK
       go_enter Tryz.func169, Tryz.ntmps169
       go_wp2
       go_ret
       exact ⟨ret_bool HK2.out.symm, Below.refl _ _⟩
 have q0 : (k.toList == [36, 110, 97, 109, 101]) = false := (type_eq k [36, 110, 97, 109, 101]).trans (decide_eq_false h0)
 have p0 : ¬ k.toList = [36, 110, 97, 109, 101] := by simpa using q0
 have q1 : (k.toList == [36, 105, 112]) = false := (type_eq k [36, 105, 112]).trans (decide_eq_false h1)
 have p1 : ¬ k.toList = [36, 105, 112] := by simpa using q1
 have q2 : (k.toList == [36, 112, 114, 101, 102, 105, 120]) = false := (type_eq k [36, 112, 114, 101, 102, 105, 120]).trans (decide_eq_false h2)
 have p2 : ¬ k.toList = [36, 112, 114, 101, 102, 105, 120] := by simpa using q2
 have q3 : (k.toList == [36, 109, 97, 99]) = false := (type_eq k [36, 109, 97, 99]).trans (decide_eq_false h3)
 have p3 : ¬ k.toList = [36, 109, 97, 99] := by simpa using q3
 have q4 : (k.toList == [36, 118, 110, 105]) = false := (type_eq k [36, 118, 110, 105]).trans (decide_eq_false h4)
 have p4 : ¬ k.toList = [36, 118, 110, 105] := by simpa using q4
 have q5 : (k.toList == [36, 110, 117, 109]) = false := (type_eq k [36, 110, 117, 109]).trans (decide_eq_false h5)
 have p5 : ¬ k.toList = [36, 110, 117, 109] := by simpa using q5
 have q6 : (k.toList == [36, 109, 101, 116, 114, 105, 99]) = false := (type_eq k [36, 109, 101, 116, 114, 105, 99]).trans (decide_eq_false h6)
 have p6 : ¬ k.toList = [36, 109, 101, 116, 114, 105, 99] := by simpa using q6
 have q7 : (k.toList == [36, 97, 99, 116, 105, 111, 110]) = false := (type_eq k [36, 97, 99, 116, 105, 111, 110]).trans (decide_eq_false h7)
 have p7 : ¬ k.toList = [36, 97, 99, 116, 105, 111, 110] := by simpa using q7
 have HK : Hid (typeB k s = false) := by show _ = _; unfold typeB; rw [if_neg h0, if_neg h1, if_neg h2, if_neg h3, if_neg h4, if_neg h5, if_neg h6, if_neg h7]
 clear h0 h1 h2 h3 h4 h5 h6 h7
 go_enter Tryz.func169, Tryz.ntmps169
 go_wp2
 go_ret
 exact ⟨ret_bool HK.out.symm, Below.refl _ _⟩
set_option maxHeartbeats 1000000 in
set_option maxRecDepth 100000 in
theorem refName_any (s : ByteArray) (w : World) (hs : s.size ≤ 100000000) :
 Calls Tryz.prog 147 #[.string s] w fun e w' => e = .returned (.bool (nameB s.data.toList)) ∧ Below w.heap.size w w' := by
 have HX : Hid (nameB s.data.toList = (decide (1 ≤ s.data.toList.length) && decide (s.data.toList.length ≤ 16) && isLow (s.data.toList.getD 0 0) && s.data.toList.all isNm)) := rfl
 have hsz := size_data s
 have HZ := Lib.hid hsz
 clear hsz
 by_cases h0 : s.size = 0
 · have hz : (s.size : Int) < 1 := by omega
   have HK : Hid (nameB s.data.toList = false) := by show _ = _; rw [HX.out, HZ.out, decide_eq_false (by omega)]; rfl
   clear HX h0
   go_enter Tryz.func147, Tryz.ntmps147
   go_wp2
   go_ret
   exact ⟨ret_bool HK.out.symm, Below.refl _ _⟩
 · have hp : 0 < s.size := by omega
   have hp1 : ¬ (s.size : Int) < 1 := by omega
   by_cases h16 : s.size ≤ 16
   · have hg : Hid (s.data.toList.getD 0 0 = s[0]) := by
      show _ = _
      rw [List.getD_eq_getElem?_getD, List.getElem?_eq_getElem (by rw [HZ.out]; exact hp)]; rfl
     have HX1 : Hid (nameB s.data.toList = (isLow s[0] && s.data.toList.all isNm)) := by
      show _ = _
      rw [HX.out, HZ.out, hg.out, decide_eq_true (p := 1 ≤ s.size) (by omega), decide_eq_true h16]; simp
     have HL : Hid (isLow s[0] = (decide (97 ≤ s[0].toNat) && decide (s[0].toNat ≤ 122))) := rfl
     have h16' : ¬ (16 : Int) < (s.size : Int) := by omega
     by_cases h1 : 97 ≤ s[0].toNat
     · have h1' : ¬ s[0].toNat < 97 := by omega
       by_cases h2 : s[0].toNat ≤ 122
       · have h2' : ¬ 122 < s[0].toNat := by omega
         have HX2 : Hid (nameB s.data.toList = s.data.toList.all isNm) := by
          show _ = _
          rw [HX1.out, HL.out, decide_eq_true h1, decide_eq_true h2]; rfl
         clear HX HX1 HL hg h0
         go_enter Tryz.func147, Tryz.ntmps147
         go_wp2
         go_loop [3] (fun vi => ∃ i : Nat, i ≤ s.size ∧ vi = .int .i64 i ∧ Hid (nameB s.data.toList = (s.data.toList.drop i).all isNm)) (fun vi => s.size - (intOf vi).toNat)
         case atStart => exact ⟨0, Nat.zero_le _, rfl, HX2⟩
         case round =>
          clear HX2
          obtain ⟨i, hi, rfl, HQ⟩ := hrel
          by_cases hlt : i < s.size
          · have hst : Hid (nameB s.data.toList = (isNm s[i] && (s.data.toList.drop (i + 1)).all isNm)) := by
             show _ = _
             rw [HQ.out, List.drop_eq_getElem_cons (by rw [HZ.out]; exact hlt)]; rfl
            have HM : Hid (isNm s[i] = (decide (97 ≤ s[i].toNat) && decide (s[i].toNat ≤ 122) || (decide (48 ≤ s[i].toNat) && decide (s[i].toNat ≤ 57)) || s[i] == 45)) := rfl
            have H45 : Hid ((s[i] == 45) = decide (s[i].toNat = 45)) := by
             show _ = _
             rw [Bool.eq_iff_iff, beq_iff_eq, decide_eq_true_eq]
             exact ⟨fun h => by rw [h]; rfl, fun h => UInt8.toNat_inj.1 h⟩
            have hc256 := s[i].toNat_lt
            by_cases hm : isNm s[i] = true
            · have HN : Hid (nameB s.data.toList = (s.data.toList.drop (i + 1)).all isNm) := by show _ = _; rw [hst.out, hm]; rfl
              have HO : Hid (97 ≤ s[i].toNat ∧ s[i].toNat ≤ 122 ∨ 48 ≤ s[i].toNat ∧ s[i].toNat ≤ 57 ∨ s[i].toNat = 45) := by
               have := hm; rw [HM.out, H45.out] at this
               simp only [Bool.or_eq_true, Bool.and_eq_true, decide_eq_true_eq] at this
               show _ ∨ _; omega
              clear HQ hst HM H45 hm
              go_wp2
              all_goals first
               | (go_round
                  case rel => exact ⟨i + 1, by omega, by go_num, HN⟩
                  case measure => simp [intOf]; omega)
               | (exfalso; have := HO.out; simp at *; omega)
            · have HN : Hid (nameB s.data.toList = false) := by show _ = _; rw [hst.out]; simp [hm]
              have HO : Hid (¬ (97 ≤ s[i].toNat ∧ s[i].toNat ≤ 122) ∧ ¬ (48 ≤ s[i].toNat ∧ s[i].toNat ≤ 57) ∧ ¬ s[i].toNat = 45) := by
               have := hm; rw [HM.out, H45.out] at this
               simp only [Bool.or_eq_true, Bool.and_eq_true, decide_eq_true_eq] at this
               show _ ∧ _; omega
              clear HQ hst HM H45 hm
              go_wp2
              all_goals first
               | (go_ret
                  exact ⟨ret_bool HN.out.symm, Below.refl _ _⟩)
               | (exfalso; have := HO.out; simp at *; omega)
          · obtain rfl : i = s.size := by omega
            have HN : Hid (nameB s.data.toList = true) := by show _ = _; rw [HQ.out, List.drop_eq_nil_of_le (by rw [HZ.out]; exact Nat.le_refl _)]; rfl
            clear HQ
            go_wp2
            go_ret
            exact ⟨ret_bool HN.out.symm, Below.refl _ _⟩
       · have h2' : 122 < s[0].toNat := by omega
         have HK : Hid (nameB s.data.toList = false) := by show _ = _; rw [HX1.out, HL.out, decide_eq_false h2]; simp
         clear HX HX1 HL hg h0
         go_enter Tryz.func147, Tryz.ntmps147
         go_wp2
         go_ret
         exact ⟨ret_bool HK.out.symm, Below.refl _ _⟩
     · have h1' : s[0].toNat < 97 := by omega
       have HK : Hid (nameB s.data.toList = false) := by show _ = _; rw [HX1.out, HL.out, decide_eq_false h1]; simp
       clear HX HX1 HL hg h0
       go_enter Tryz.func147, Tryz.ntmps147
       go_wp2
       go_ret
       exact ⟨ret_bool HK.out.symm, Below.refl _ _⟩
   · have h16' : (16 : Int) < (s.size : Int) := by omega
     have HK : Hid (nameB s.data.toList = false) := by show _ = _; rw [HX.out, HZ.out, decide_eq_false h16]; simp
     clear HX h0
     go_enter Tryz.func147, Tryz.ntmps147
     go_wp2
     go_ret
     exact ⟨ret_bool HK.out.symm, Below.refl _ _⟩
set_option maxHeartbeats 4000000 in
set_option maxRecDepth 100000 in
theorem refType_any (k s : ByteArray) (w : World) (hs : s.size ≤ 100000000) :
 Calls Tryz.prog 108 #[.string k, .string s] w fun e w' => e = .returned (.bool (typeB k s)) ∧ Below w.heap.size w w' := by
 have HN := Lib.hid (refNum_any s w (by unfold maxLen; omega))
 have hng := num_ge s.data.toList
 have hnl := num_lt s.data.toList
 by_cases h0 : k = tName
 · skip
   have q0 : (k.toList == [36, 110, 97, 109, 101]) = true := (type_eq k [36, 110, 97, 109, 101]).trans (decide_eq_true h0)
   have p0 : k.toList = [36, 110, 97, 109, 101] := by simpa using q0
   have HK : Hid (typeB k s = (nameB s.data.toList)) := by show _ = _; unfold typeB; rw [if_pos h0]
   have HC := Lib.hid (fun W => refName_any s W hs)
   generalize nameB s.data.toList = b at *
   clear h0
   go_enter Tryz.func108, Tryz.ntmps108
   go_wp2_with fail
   refine HN.out.mono ?_
   rintro e w1 ⟨rfl, rfl⟩
   clear HN
   go_wp2_with fail
   refine (HC.out _).mono ?_
   rintro e w2 ⟨rfl, hb2⟩
   clear HC
   go_wp2
   go_ret
   exact ⟨ret_bool HK.out.symm, hb2⟩
 by_cases h1 : k = tIp
 · skip
   have q0 : (k.toList == [36, 110, 97, 109, 101]) = false := (type_eq k [36, 110, 97, 109, 101]).trans (decide_eq_false h0)
   have p0 : ¬ k.toList = [36, 110, 97, 109, 101] := by simpa using q0
   have q1 : (k.toList == [36, 105, 112]) = true := (type_eq k [36, 105, 112]).trans (decide_eq_true h1)
   have p1 : k.toList = [36, 105, 112] := by simpa using q1
   have HK : Hid (typeB k s = (decide (0 ≤ ip s.data.toList))) := by show _ = _; unfold typeB; rw [if_neg h0, if_pos h1]
   have HC := Lib.hid (fun W => refIp_any s W hs)
   generalize ip s.data.toList = z at *
   clear h0 h1
   go_enter Tryz.func108, Tryz.ntmps108
   go_wp2_with fail
   refine HN.out.mono ?_
   rintro e w1 ⟨rfl, rfl⟩
   clear HN
   go_wp2_with fail
   refine (HC.out _).mono ?_
   rintro e w2 ⟨rfl, hb2⟩
   clear HC
   go_wp2
   go_ret
   exact ⟨ret_bool HK.out.symm, hb2⟩
 by_cases h2 : k = tPrefix
 · skip
   have q0 : (k.toList == [36, 110, 97, 109, 101]) = false := (type_eq k [36, 110, 97, 109, 101]).trans (decide_eq_false h0)
   have p0 : ¬ k.toList = [36, 110, 97, 109, 101] := by simpa using q0
   have q1 : (k.toList == [36, 105, 112]) = false := (type_eq k [36, 105, 112]).trans (decide_eq_false h1)
   have p1 : ¬ k.toList = [36, 105, 112] := by simpa using q1
   have q2 : (k.toList == [36, 112, 114, 101, 102, 105, 120]) = true := (type_eq k [36, 112, 114, 101, 102, 105, 120]).trans (decide_eq_true h2)
   have p2 : k.toList = [36, 112, 114, 101, 102, 105, 120] := by simpa using q2
   have HK : Hid (typeB k s = (decide (0 ≤ (pre s.data.toList).1))) := by show _ = _; unfold typeB; rw [if_neg h0, if_neg h1, if_pos h2]
   have HC := Lib.hid (fun W => refPre_any s W hs)
   generalize (pre s.data.toList).1 = z at *
   generalize (pre s.data.toList).2 = z2 at *
   clear h0 h1 h2
   go_enter Tryz.func108, Tryz.ntmps108
   go_wp2_with fail
   refine HN.out.mono ?_
   rintro e w1 ⟨rfl, rfl⟩
   clear HN
   go_wp2_with fail
   refine (HC.out _).mono ?_
   rintro e w2 ⟨rfl, hb2⟩
   clear HC
   go_wp2
   go_ret
   exact ⟨ret_bool HK.out.symm, hb2⟩
 by_cases h3 : k = tMac
 · skip
   have q0 : (k.toList == [36, 110, 97, 109, 101]) = false := (type_eq k [36, 110, 97, 109, 101]).trans (decide_eq_false h0)
   have p0 : ¬ k.toList = [36, 110, 97, 109, 101] := by simpa using q0
   have q1 : (k.toList == [36, 105, 112]) = false := (type_eq k [36, 105, 112]).trans (decide_eq_false h1)
   have p1 : ¬ k.toList = [36, 105, 112] := by simpa using q1
   have q2 : (k.toList == [36, 112, 114, 101, 102, 105, 120]) = false := (type_eq k [36, 112, 114, 101, 102, 105, 120]).trans (decide_eq_false h2)
   have p2 : ¬ k.toList = [36, 112, 114, 101, 102, 105, 120] := by simpa using q2
   have q3 : (k.toList == [36, 109, 97, 99]) = true := (type_eq k [36, 109, 97, 99]).trans (decide_eq_true h3)
   have p3 : k.toList = [36, 109, 97, 99] := by simpa using q3
   have HK : Hid (typeB k s = (decide (0 ≤ mac s.data.toList))) := by show _ = _; unfold typeB; rw [if_neg h0, if_neg h1, if_neg h2, if_pos h3]
   have HC := Lib.hid (fun W => refMac_any s W hs)
   generalize mac s.data.toList = z at *
   clear h0 h1 h2 h3
   go_enter Tryz.func108, Tryz.ntmps108
   go_wp2_with fail
   refine HN.out.mono ?_
   rintro e w1 ⟨rfl, rfl⟩
   clear HN
   go_wp2_with fail
   refine (HC.out _).mono ?_
   rintro e w2 ⟨rfl, hb2⟩
   clear HC
   go_wp2
   go_ret
   exact ⟨ret_bool HK.out.symm, hb2⟩
 by_cases h4 : k = tVni
 · skip
   have q0 : (k.toList == [36, 110, 97, 109, 101]) = false := (type_eq k [36, 110, 97, 109, 101]).trans (decide_eq_false h0)
   have p0 : ¬ k.toList = [36, 110, 97, 109, 101] := by simpa using q0
   have q1 : (k.toList == [36, 105, 112]) = false := (type_eq k [36, 105, 112]).trans (decide_eq_false h1)
   have p1 : ¬ k.toList = [36, 105, 112] := by simpa using q1
   have q2 : (k.toList == [36, 112, 114, 101, 102, 105, 120]) = false := (type_eq k [36, 112, 114, 101, 102, 105, 120]).trans (decide_eq_false h2)
   have p2 : ¬ k.toList = [36, 112, 114, 101, 102, 105, 120] := by simpa using q2
   have q3 : (k.toList == [36, 109, 97, 99]) = false := (type_eq k [36, 109, 97, 99]).trans (decide_eq_false h3)
   have p3 : ¬ k.toList = [36, 109, 97, 99] := by simpa using q3
   have q4 : (k.toList == [36, 118, 110, 105]) = true := (type_eq k [36, 118, 110, 105]).trans (decide_eq_true h4)
   have p4 : k.toList = [36, 118, 110, 105] := by simpa using q4
   have HK : Hid (typeB k s = (numIn s.data.toList 1 16777215)) := by show _ = _; unfold typeB; rw [if_neg h0, if_neg h1, if_neg h2, if_neg h3, if_pos h4]
   have HM : Hid (numIn s.data.toList 1 16777215 = (decide (0 ≤ num s.data.toList) && decide (1 ≤ num s.data.toList) && decide (num s.data.toList ≤ 16777215))) := rfl
   generalize numIn s.data.toList 1 16777215 = b at *
   generalize num s.data.toList = z at *
   clear h0 h1 h2 h3 h4
   go_enter Tryz.func108, Tryz.ntmps108
   go_wp2_with fail
   refine HN.out.mono ?_
   rintro e w1 ⟨rfl, rfl⟩
   clear HN
   go_wp2
   all_goals
    go_ret
    refine ⟨ret_bool ?_, Below.refl _ _⟩
    rw [HK.out, HM.out, Bool.eq_iff_iff]
    simp only [Bool.and_eq_true, decide_eq_true_eq, Bool.false_eq_true, false_iff]
    omega
 by_cases h5 : k = tNum
 · skip
   have q0 : (k.toList == [36, 110, 97, 109, 101]) = false := (type_eq k [36, 110, 97, 109, 101]).trans (decide_eq_false h0)
   have p0 : ¬ k.toList = [36, 110, 97, 109, 101] := by simpa using q0
   have q1 : (k.toList == [36, 105, 112]) = false := (type_eq k [36, 105, 112]).trans (decide_eq_false h1)
   have p1 : ¬ k.toList = [36, 105, 112] := by simpa using q1
   have q2 : (k.toList == [36, 112, 114, 101, 102, 105, 120]) = false := (type_eq k [36, 112, 114, 101, 102, 105, 120]).trans (decide_eq_false h2)
   have p2 : ¬ k.toList = [36, 112, 114, 101, 102, 105, 120] := by simpa using q2
   have q3 : (k.toList == [36, 109, 97, 99]) = false := (type_eq k [36, 109, 97, 99]).trans (decide_eq_false h3)
   have p3 : ¬ k.toList = [36, 109, 97, 99] := by simpa using q3
   have q4 : (k.toList == [36, 118, 110, 105]) = false := (type_eq k [36, 118, 110, 105]).trans (decide_eq_false h4)
   have p4 : ¬ k.toList = [36, 118, 110, 105] := by simpa using q4
   have q5 : (k.toList == [36, 110, 117, 109]) = true := (type_eq k [36, 110, 117, 109]).trans (decide_eq_true h5)
   have p5 : k.toList = [36, 110, 117, 109] := by simpa using q5
   have HK : Hid (typeB k s = (numIn s.data.toList 1 1000)) := by show _ = _; unfold typeB; rw [if_neg h0, if_neg h1, if_neg h2, if_neg h3, if_neg h4, if_pos h5]
   have HM : Hid (numIn s.data.toList 1 1000 = (decide (0 ≤ num s.data.toList) && decide (1 ≤ num s.data.toList) && decide (num s.data.toList ≤ 1000))) := rfl
   generalize numIn s.data.toList 1 1000 = b at *
   generalize num s.data.toList = z at *
   clear h0 h1 h2 h3 h4 h5
   go_enter Tryz.func108, Tryz.ntmps108
   go_wp2_with fail
   refine HN.out.mono ?_
   rintro e w1 ⟨rfl, rfl⟩
   clear HN
   go_wp2
   all_goals
    go_ret
    refine ⟨ret_bool ?_, Below.refl _ _⟩
    rw [HK.out, HM.out, Bool.eq_iff_iff]
    simp only [Bool.and_eq_true, decide_eq_true_eq, Bool.false_eq_true, false_iff]
    omega
 by_cases h6 : k = tMetric
 · skip
   have q0 : (k.toList == [36, 110, 97, 109, 101]) = false := (type_eq k [36, 110, 97, 109, 101]).trans (decide_eq_false h0)
   have p0 : ¬ k.toList = [36, 110, 97, 109, 101] := by simpa using q0
   have q1 : (k.toList == [36, 105, 112]) = false := (type_eq k [36, 105, 112]).trans (decide_eq_false h1)
   have p1 : ¬ k.toList = [36, 105, 112] := by simpa using q1
   have q2 : (k.toList == [36, 112, 114, 101, 102, 105, 120]) = false := (type_eq k [36, 112, 114, 101, 102, 105, 120]).trans (decide_eq_false h2)
   have p2 : ¬ k.toList = [36, 112, 114, 101, 102, 105, 120] := by simpa using q2
   have q3 : (k.toList == [36, 109, 97, 99]) = false := (type_eq k [36, 109, 97, 99]).trans (decide_eq_false h3)
   have p3 : ¬ k.toList = [36, 109, 97, 99] := by simpa using q3
   have q4 : (k.toList == [36, 118, 110, 105]) = false := (type_eq k [36, 118, 110, 105]).trans (decide_eq_false h4)
   have p4 : ¬ k.toList = [36, 118, 110, 105] := by simpa using q4
   have q5 : (k.toList == [36, 110, 117, 109]) = false := (type_eq k [36, 110, 117, 109]).trans (decide_eq_false h5)
   have p5 : ¬ k.toList = [36, 110, 117, 109] := by simpa using q5
   have q6 : (k.toList == [36, 109, 101, 116, 114, 105, 99]) = true := (type_eq k [36, 109, 101, 116, 114, 105, 99]).trans (decide_eq_true h6)
   have p6 : k.toList = [36, 109, 101, 116, 114, 105, 99] := by simpa using q6
   have HK : Hid (typeB k s = (readOk s.data.toList)) := by show _ = _; unfold typeB; rw [if_neg h0, if_neg h1, if_neg h2, if_neg h3, if_neg h4, if_neg h5, if_pos h6]
   have HC := Lib.hid (fun W => refRead_any s W hs)
   unfold ReadEnd at HC
   generalize readOk s.data.toList = b at *
   clear h0 h1 h2 h3 h4 h5 h6
   go_enter Tryz.func108, Tryz.ntmps108
   go_wp2_with fail
   refine HN.out.mono ?_
   rintro e w1 ⟨rfl, rfl⟩
   clear HN
   go_wp2_with fail
   refine (HC.out _).mono ?_
   rintro e w2 ⟨⟨f, rfl⟩, hb2⟩
   clear HC
   go_wp2
   go_ret
   exact ⟨ret_bool HK.out.symm, hb2⟩
 by_cases h7 : k = tAction
 · skip
   have q0 : (k.toList == [36, 110, 97, 109, 101]) = false := (type_eq k [36, 110, 97, 109, 101]).trans (decide_eq_false h0)
   have p0 : ¬ k.toList = [36, 110, 97, 109, 101] := by simpa using q0
   have q1 : (k.toList == [36, 105, 112]) = false := (type_eq k [36, 105, 112]).trans (decide_eq_false h1)
   have p1 : ¬ k.toList = [36, 105, 112] := by simpa using q1
   have q2 : (k.toList == [36, 112, 114, 101, 102, 105, 120]) = false := (type_eq k [36, 112, 114, 101, 102, 105, 120]).trans (decide_eq_false h2)
   have p2 : ¬ k.toList = [36, 112, 114, 101, 102, 105, 120] := by simpa using q2
   have q3 : (k.toList == [36, 109, 97, 99]) = false := (type_eq k [36, 109, 97, 99]).trans (decide_eq_false h3)
   have p3 : ¬ k.toList = [36, 109, 97, 99] := by simpa using q3
   have q4 : (k.toList == [36, 118, 110, 105]) = false := (type_eq k [36, 118, 110, 105]).trans (decide_eq_false h4)
   have p4 : ¬ k.toList = [36, 118, 110, 105] := by simpa using q4
   have q5 : (k.toList == [36, 110, 117, 109]) = false := (type_eq k [36, 110, 117, 109]).trans (decide_eq_false h5)
   have p5 : ¬ k.toList = [36, 110, 117, 109] := by simpa using q5
   have q6 : (k.toList == [36, 109, 101, 116, 114, 105, 99]) = false := (type_eq k [36, 109, 101, 116, 114, 105, 99]).trans (decide_eq_false h6)
   have p6 : ¬ k.toList = [36, 109, 101, 116, 114, 105, 99] := by simpa using q6
   have q7 : (k.toList == [36, 97, 99, 116, 105, 111, 110]) = true := (type_eq k [36, 97, 99, 116, 105, 111, 110]).trans (decide_eq_true h7)
   have p7 : k.toList = [36, 97, 99, 116, 105, 111, 110] := by simpa using q7
   have HK : Hid (typeB k s = (decide (s = wPermit) || decide (s = wDeny))) := by show _ = _; unfold typeB; rw [if_neg h0, if_neg h1, if_neg h2, if_neg h3, if_neg h4, if_neg h5, if_neg h6, if_pos h7]
   clear h0 h1 h2 h3 h4 h5 h6 h7
   generalize num s.data.toList = z at *
   by_cases g1 : s = wPermit
   · have y1 : (s.toList == [112, 101, 114, 109, 105, 116]) = true := (type_eq s [112, 101, 114, 109, 105, 116]).trans (decide_eq_true g1)
     have z1 : s.toList = [112, 101, 114, 109, 105, 116] := by simpa using y1
     have HK2 : Hid (typeB k s = true) := by show _ = _; rw [HK.out, decide_eq_true g1]; rfl
     clear g1 HK
     go_enter Tryz.func108, Tryz.ntmps108
     go_wp2_with fail
     refine HN.out.mono ?_
     rintro e w1 ⟨rfl, rfl⟩
     clear HN
     go_wp2
     go_ret
     exact ⟨ret_bool HK2.out.symm, Below.refl _ _⟩
   · have y1 : (s.toList == [112, 101, 114, 109, 105, 116]) = false := (type_eq s [112, 101, 114, 109, 105, 116]).trans (decide_eq_false g1)
     have z1 : ¬ s.toList = [112, 101, 114, 109, 105, 116] := by simpa using y1
     by_cases g2 : s = wDeny
     · have y2 : (s.toList == [100, 101, 110, 121]) = true := (type_eq s [100, 101, 110, 121]).trans (decide_eq_true g2)
       have z2 : s.toList = [100, 101, 110, 121] := by simpa using y2
       have HK2 : Hid (typeB k s = true) := by show _ = _; rw [HK.out, decide_eq_true g2]; simp
       clear g1 g2 HK
       go_enter Tryz.func108, Tryz.ntmps108
       go_wp2_with fail
       refine HN.out.mono ?_
       rintro e w1 ⟨rfl, rfl⟩
       clear HN
       go_wp2
       go_ret
       exact ⟨ret_bool HK2.out.symm, Below.refl _ _⟩
     · have y2 : (s.toList == [100, 101, 110, 121]) = false := (type_eq s [100, 101, 110, 121]).trans (decide_eq_false g2)
       have z2 : ¬ s.toList = [100, 101, 110, 121] := by simpa using y2
       have HK2 : Hid (typeB k s = false) := by show _ = _; rw [HK.out, decide_eq_false g1, decide_eq_false g2]; rfl
       clear g1 g2 HK
       go_enter Tryz.func108, Tryz.ntmps108
       go_wp2_with fail
       refine HN.out.mono ?_
       rintro e w1 ⟨rfl, rfl⟩
       clear HN
       go_wp2
       go_ret
       exact ⟨ret_bool HK2.out.symm, Below.refl _ _⟩
 have q0 : (k.toList == [36, 110, 97, 109, 101]) = false := (type_eq k [36, 110, 97, 109, 101]).trans (decide_eq_false h0)
 have p0 : ¬ k.toList = [36, 110, 97, 109, 101] := by simpa using q0
 have q1 : (k.toList == [36, 105, 112]) = false := (type_eq k [36, 105, 112]).trans (decide_eq_false h1)
 have p1 : ¬ k.toList = [36, 105, 112] := by simpa using q1
 have q2 : (k.toList == [36, 112, 114, 101, 102, 105, 120]) = false := (type_eq k [36, 112, 114, 101, 102, 105, 120]).trans (decide_eq_false h2)
 have p2 : ¬ k.toList = [36, 112, 114, 101, 102, 105, 120] := by simpa using q2
 have q3 : (k.toList == [36, 109, 97, 99]) = false := (type_eq k [36, 109, 97, 99]).trans (decide_eq_false h3)
 have p3 : ¬ k.toList = [36, 109, 97, 99] := by simpa using q3
 have q4 : (k.toList == [36, 118, 110, 105]) = false := (type_eq k [36, 118, 110, 105]).trans (decide_eq_false h4)
 have p4 : ¬ k.toList = [36, 118, 110, 105] := by simpa using q4
 have q5 : (k.toList == [36, 110, 117, 109]) = false := (type_eq k [36, 110, 117, 109]).trans (decide_eq_false h5)
 have p5 : ¬ k.toList = [36, 110, 117, 109] := by simpa using q5
 have q6 : (k.toList == [36, 109, 101, 116, 114, 105, 99]) = false := (type_eq k [36, 109, 101, 116, 114, 105, 99]).trans (decide_eq_false h6)
 have p6 : ¬ k.toList = [36, 109, 101, 116, 114, 105, 99] := by simpa using q6
 have q7 : (k.toList == [36, 97, 99, 116, 105, 111, 110]) = false := (type_eq k [36, 97, 99, 116, 105, 111, 110]).trans (decide_eq_false h7)
 have p7 : ¬ k.toList = [36, 97, 99, 116, 105, 111, 110] := by simpa using q7
 have HK : Hid (typeB k s = false) := by show _ = _; unfold typeB; rw [if_neg h0, if_neg h1, if_neg h2, if_neg h3, if_neg h4, if_neg h5, if_neg h6, if_neg h7]
 clear h0 h1 h2 h3 h4 h5 h6 h7
 generalize num s.data.toList = z at *
 go_enter Tryz.func108, Tryz.ntmps108
 go_wp2_with fail
 refine HN.out.mono ?_
 rintro e w1 ⟨rfl, rfl⟩
 clear HN
 go_wp2
 go_ret
 exact ⟨ret_bool HK.out.symm, Below.refl _ _⟩
end Go.Proofs.YtjdknhalcpkeaaaGreatDoor
