import Derived.Test.YtdamidelojccaaaGreatDoorJ12
set_option maxHeartbeats 4000000
set_option maxRecDepth 100000
namespace Sch
open Go Go.Lib Adr Mtr Tre
def Zzw : List UInt8 := [97, 98, 99, 100, 101, 102, 103, 104, 105, 106, 107, 108, 109, 110, 111, 112, 113, 114, 115, 116, 117, 118, 119, 120, 121, 122, 48, 49, 50, 51, 52, 53, 54, 55, 56, 57, 45]
theorem Zawe (c : UInt8) : Zzw.contains c = isNm c := by
 have : ∀ n : Fin 256, Zzw.contains (UInt8.ofNat n) = isNm (UInt8.ofNat n) := by decide +kernel
 have h := this ⟨c.toNat, c.toNat_lt⟩;simpa using h
theorem Zavm (l : List UInt8) : (trimS l Zzw).isEmpty = l.all isNm := by
 rw [Ycj, List.isEmpty_iff, Zacg, show (fun x => Zzw.contains x) = isNm from funext Zawe]
theorem Zav (k : ByteArray) (l : List UInt8) : (k.toList == l) = decide (k = ⟨l.toArray⟩) := by
 rw [Lib.toList_data, Ycj, beq_iff_eq, Yao];constructor
 · rintro rfl; exact (Lib.mk_data k).symm
 · rintro rfl; simp
end Sch
namespace Go.Proofs.Zq
open Tryz
open Go Go.RowKit Sch Adr Mtr
theorem Zaba {s : ByteArray} (h : s.size = 0) : s.toList.isEmpty = true := by
 rw [Lib.toList_data, List.isEmpty_iff]; exact Ycw.1 (by rw [Zat]; exact h)
theorem Zary (s : ByteArray) (w : World) (hs : s.size ≤ 100000000) :
 Calls prog 189 #[.string s] w fun e w' => e = .returned (.bool (nameB s.data.toList)) ∧ Below w.heap.size w w' := by
 have HX : Hid (nameB s.data.toList = (decide (1 ≤ s.data.toList.length) && decide (s.data.toList.length ≤ 16) && Zalg (s.data.toList.getD 0 0) && s.data.toList.all isNm)) := rfl;have hsz := Zat s;have HZ := _root_.Zhd hsz;clear hsz;by_cases h0 : s.size = 0
 · have he := Zaba h0;have he2 : s.toList = [] := by simpa using he
   have HK : Hid (nameB s.data.toList = false) := by show _ = _; rw [HX.out, HZ.out, Yae (by omega)]; rfl
   clear HX h0;go_enter func189, ntmps189;go_wp2;go_ret;exact ⟨Zai HK.out.symm, Yac _ _⟩
 · have hp : 0 < s.size := by omega
   have he := Zfr hp;have he2 : ¬ s.toList = [] := by simpa using he
   by_cases h16 : s.size ≤ 16
   · have hg : Hid (s.data.toList.getD 0 0 = s[0]) := by
      show _ = _;rw [Yap, Yag (by rw [HZ.out]; exact hp)]; rfl
     have HX1 : Hid (nameB s.data.toList = (Zalg s[0] && s.data.toList.all isNm)) := by
      show _ = _;rw [HX.out, HZ.out, hg.out, Yal (p := 1 ≤ s.size) (by omega), Yal h16]; simp
     have HL : Hid (Zalg s[0] = (decide (97 ≤ s[0].toNat) && decide (s[0].toNat ≤ 122))) := rfl;have h16' : decide ((s.size : Int) ≤ 16) = true := Yal (by omega)
     by_cases h1 : 97 ≤ s[0].toNat
     · by_cases h2 : s[0].toNat ≤ 122
       · have HX2 : Hid (nameB s.data.toList = s.data.toList.all isNm) := by
          show _ = _;rw [HX1.out, HL.out, Yal h1, Yal h2]; rfl
         have HT := _root_.Zhd (Zadm s ⟨#[97, 98, 99, 100, 101, 102, 103, 104, 105, 106, 107, 108, 109, 110, 111, 112, 113, 114, 115, 116, 117, 118, 119, 120, 121, 122, 48, 49, 50, 51, 52, 53, 54, 55, 56, 57, 45]⟩ w hs (by decide) (by decide))
         have HE : Hid ((⟨(Lib.trimS s.data.toList Zzw).toArray⟩ : ByteArray).toList.isEmpty = s.data.toList.all isNm) := by show _ = _; rw [Zkw]; exact Zavm _
         have HT2 : Hid (Calls prog 211 #[.string s, .string ⟨#[97, 98, 99, 100, 101, 102, 103, 104, 105, 106, 107, 108, 109, 110, 111, 112, 113, 114, 115, 116, 117, 118, 119, 120, 121, 122, 48, 49, 50, 51, 52, 53, 54, 55, 56, 57, 45]⟩] w fun e w' => e = .returned (.string ⟨(Lib.trimS s.data.toList Zzw).toArray⟩) ∧ Below w.heap.size w w') := HT.out
         clear HX HX1 HL HT hg h0;generalize (⟨(Lib.trimS s.data.toList Zzw).toArray⟩ : ByteArray) = t at *;generalize s.data.toList.all isNm = b at *;go_enter func189, ntmps189;cases b with
         | true =>
           have ht : t.toList.isEmpty = true := HE.out;have ht2 : t.toList = [] := by simpa using ht
           go_wp2_with fail;refine HT2.out.mono ?_;rintro e w1 ⟨rfl, hb1⟩;go_wp2;go_ret;exact ⟨Zai HX2.out.symm, hb1⟩
         | false =>
           have ht : t.toList.isEmpty = false := HE.out;have ht2 : ¬ t.toList = [] := by simpa using ht
           go_wp2_with fail;refine HT2.out.mono ?_;rintro e w1 ⟨rfl, hb1⟩;go_wp2;go_ret;exact ⟨Zai HX2.out.symm, hb1⟩
       · have HK : Hid (nameB s.data.toList = false) := by show _ = _; rw [HX1.out, HL.out, Yae h2]; simp
         clear HX HX1 HL hg h0;go_enter func189, ntmps189;go_wp2;go_ret;exact ⟨Zai HK.out.symm, Yac _ _⟩
     · have HK : Hid (nameB s.data.toList = false) := by show _ = _; rw [HX1.out, HL.out, Yae h1]; simp
       clear HX HX1 HL hg h0;go_enter func189, ntmps189;go_wp2;go_ret;exact ⟨Zai HK.out.symm, Yac _ _⟩
   · have h16' : decide ((s.size : Int) ≤ 16) = false := Yae (by omega)
     have HK : Hid (nameB s.data.toList = false) := by show _ = _; rw [HX.out, HZ.out, Yae h16]; simp
     clear HX h0;go_enter func189, ntmps189;go_wp2;go_ret;exact ⟨Zai HK.out.symm, Yac _ _⟩
theorem Zarp (k s : ByteArray) (w : World) (hE : Env w) (hs : s.size ≤ 100000000) :
 Calls prog 156 #[.string k, .string s] w fun e w' => e = .returned (.bool (Zev k s)) ∧ Below w.heap.size w w' := by
 by_cases h0 : k = Zgq
 · skip
   have q0 : (k.toList == [36, 110, 97, 109, 101]) = true := (Zav k [36, 110, 97, 109, 101]).trans (Yal h0);have p0 : k.toList = [36, 110, 97, 109, 101] := by simpa using q0
   have HK : Hid (Zev k s = (nameB s.data.toList)) := by show _ = _; unfold Zev; rw [Yan h0]
   have HC := _root_.Zhd (Zary s w hs);generalize nameB s.data.toList = b at *;clear h0 hE;go_enter func156, ntmps156;go_wp2_with fail;refine HC.out.mono ?_;rintro e w1 ⟨rfl, hb1⟩;clear HC;go_wp2;go_ret;exact ⟨Zai HK.out.symm, hb1⟩
 by_cases h1 : k = tIp
 · skip
   have q0 : (k.toList == [36, 110, 97, 109, 101]) = false := (Zav k [36, 110, 97, 109, 101]).trans (Yae h0);have p0 : ¬ k.toList = [36, 110, 97, 109, 101] := by simpa using q0
   have q1 : (k.toList == [36, 105, 112]) = true := (Zav k [36, 105, 112]).trans (Yal h1);have p1 : k.toList = [36, 105, 112] := by simpa using q1
   have HK : Hid (Zev k s = (decide (0 ≤ ip s.data.toList))) := by show _ = _; unfold Zev; rw [Yab h0, Yan h1]
   have HC := _root_.Zhd (Zacd s w hE hs);unfold Zli at HC;generalize decide (0 ≤ ip s.data.toList) = b at *;clear h0 h1 hE;go_enter func156, ntmps156;go_wp2_with fail;refine HC.out.mono ?_;rintro e w1 ⟨rfl, hb1⟩;clear HC;go_wp2;go_ret;exact ⟨Zai HK.out.symm, hb1⟩
 by_cases h2 : k = Zhe
 · skip
   have q0 : (k.toList == [36, 110, 97, 109, 101]) = false := (Zav k [36, 110, 97, 109, 101]).trans (Yae h0);have p0 : ¬ k.toList = [36, 110, 97, 109, 101] := by simpa using q0
   have q1 : (k.toList == [36, 105, 112]) = false := (Zav k [36, 105, 112]).trans (Yae h1);have p1 : ¬ k.toList = [36, 105, 112] := by simpa using q1
   have q2 : (k.toList == [36, 112, 114, 101, 102, 105, 120]) = true := (Zav k [36, 112, 114, 101, 102, 105, 120]).trans (Yal h2);have p2 : k.toList = [36, 112, 114, 101, 102, 105, 120] := by simpa using q2
   have HK : Hid (Zev k s = (decide (0 ≤ (pre s.data.toList).1))) := by show _ = _; unfold Zev; rw [Yab h0, Yab h1, Yan h2]
   have HC := _root_.Zhd (Zaix s w hE hs);unfold Zjb at HC;generalize decide (0 ≤ (pre s.data.toList).1) = b at *;clear h0 h1 h2 hE;go_enter func156, ntmps156;go_wp2_with fail;refine HC.out.mono ?_;rintro e w1 ⟨rfl, hb1⟩;clear HC;go_wp2;go_ret;exact ⟨Zai HK.out.symm, hb1⟩
 by_cases h3 : k = tMac
 · skip
   have q0 : (k.toList == [36, 110, 97, 109, 101]) = false := (Zav k [36, 110, 97, 109, 101]).trans (Yae h0);have p0 : ¬ k.toList = [36, 110, 97, 109, 101] := by simpa using q0
   have q1 : (k.toList == [36, 105, 112]) = false := (Zav k [36, 105, 112]).trans (Yae h1);have p1 : ¬ k.toList = [36, 105, 112] := by simpa using q1
   have q2 : (k.toList == [36, 112, 114, 101, 102, 105, 120]) = false := (Zav k [36, 112, 114, 101, 102, 105, 120]).trans (Yae h2);have p2 : ¬ k.toList = [36, 112, 114, 101, 102, 105, 120] := by simpa using q2
   have q3 : (k.toList == [36, 109, 97, 99]) = true := (Zav k [36, 109, 97, 99]).trans (Yal h3);have p3 : k.toList = [36, 109, 97, 99] := by simpa using q3
   have HK : Hid (Zev k s = (decide (0 ≤ mac s.data.toList))) := by show _ = _; unfold Zev; rw [Yab h0, Yab h1, Yab h2, Yan h3]
   have HC := _root_.Zhd (Zavf s w hE hs);unfold Zli at HC;generalize decide (0 ≤ mac s.data.toList) = b at *;clear h0 h1 h2 h3 hE;go_enter func156, ntmps156;go_wp2_with fail;refine HC.out.mono ?_;rintro e w1 ⟨rfl, hb1⟩;clear HC;go_wp2;go_ret;exact ⟨Zai HK.out.symm, hb1⟩
 by_cases h4 : k = tVni
 · skip
   have q0 : (k.toList == [36, 110, 97, 109, 101]) = false := (Zav k [36, 110, 97, 109, 101]).trans (Yae h0);have p0 : ¬ k.toList = [36, 110, 97, 109, 101] := by simpa using q0
   have q1 : (k.toList == [36, 105, 112]) = false := (Zav k [36, 105, 112]).trans (Yae h1);have p1 : ¬ k.toList = [36, 105, 112] := by simpa using q1
   have q2 : (k.toList == [36, 112, 114, 101, 102, 105, 120]) = false := (Zav k [36, 112, 114, 101, 102, 105, 120]).trans (Yae h2);have p2 : ¬ k.toList = [36, 112, 114, 101, 102, 105, 120] := by simpa using q2
   have q3 : (k.toList == [36, 109, 97, 99]) = false := (Zav k [36, 109, 97, 99]).trans (Yae h3);have p3 : ¬ k.toList = [36, 109, 97, 99] := by simpa using q3
   have q4 : (k.toList == [36, 118, 110, 105]) = true := (Zav k [36, 118, 110, 105]).trans (Yal h4);have p4 : k.toList = [36, 118, 110, 105] := by simpa using q4
   have HK : Hid (Zev k s = (numIn s.data.toList 1 16777215)) := by show _ = _; unfold Zev; rw [Yab h0, Yab h1, Yab h2, Yab h3, Yan h4]
   have HC := _root_.Zhd (Zoo s 1 16777215 w hE (by omega))
   unfold Zll at HC;generalize (if numIn s.data.toList 1 16777215 = true then num s.data.toList else 0) = z at HC
   generalize numIn s.data.toList 1 16777215 = b at *;clear h0 h1 h2 h3 h4 hE;go_enter func156, ntmps156;go_wp2_with fail;refine HC.out.mono ?_;rintro e w1 ⟨rfl, hb1⟩;clear HC;go_wp2;go_ret;exact ⟨Zai HK.out.symm, hb1⟩
 by_cases h5 : k = tNum
 · skip
   have q0 : (k.toList == [36, 110, 97, 109, 101]) = false := (Zav k [36, 110, 97, 109, 101]).trans (Yae h0);have p0 : ¬ k.toList = [36, 110, 97, 109, 101] := by simpa using q0
   have q1 : (k.toList == [36, 105, 112]) = false := (Zav k [36, 105, 112]).trans (Yae h1);have p1 : ¬ k.toList = [36, 105, 112] := by simpa using q1
   have q2 : (k.toList == [36, 112, 114, 101, 102, 105, 120]) = false := (Zav k [36, 112, 114, 101, 102, 105, 120]).trans (Yae h2);have p2 : ¬ k.toList = [36, 112, 114, 101, 102, 105, 120] := by simpa using q2
   have q3 : (k.toList == [36, 109, 97, 99]) = false := (Zav k [36, 109, 97, 99]).trans (Yae h3);have p3 : ¬ k.toList = [36, 109, 97, 99] := by simpa using q3
   have q4 : (k.toList == [36, 118, 110, 105]) = false := (Zav k [36, 118, 110, 105]).trans (Yae h4);have p4 : ¬ k.toList = [36, 118, 110, 105] := by simpa using q4
   have q5 : (k.toList == [36, 110, 117, 109]) = true := (Zav k [36, 110, 117, 109]).trans (Yal h5);have p5 : k.toList = [36, 110, 117, 109] := by simpa using q5
   have HK : Hid (Zev k s = (numIn s.data.toList 1 1000)) := by show _ = _; unfold Zev; rw [Yab h0, Yab h1, Yab h2, Yab h3, Yab h4, Yan h5]
   have HC := _root_.Zhd (Zoo s 1 1000 w hE (by omega))
   unfold Zll at HC;generalize (if numIn s.data.toList 1 1000 = true then num s.data.toList else 0) = z at HC
   generalize numIn s.data.toList 1 1000 = b at *;clear h0 h1 h2 h3 h4 h5 hE;go_enter func156, ntmps156;go_wp2_with fail;refine HC.out.mono ?_;rintro e w1 ⟨rfl, hb1⟩;clear HC;go_wp2;go_ret;exact ⟨Zai HK.out.symm, hb1⟩
 by_cases h6 : k = Zzr
 · skip
   have q0 : (k.toList == [36, 110, 97, 109, 101]) = false := (Zav k [36, 110, 97, 109, 101]).trans (Yae h0);have p0 : ¬ k.toList = [36, 110, 97, 109, 101] := by simpa using q0
   have q1 : (k.toList == [36, 105, 112]) = false := (Zav k [36, 105, 112]).trans (Yae h1);have p1 : ¬ k.toList = [36, 105, 112] := by simpa using q1
   have q2 : (k.toList == [36, 112, 114, 101, 102, 105, 120]) = false := (Zav k [36, 112, 114, 101, 102, 105, 120]).trans (Yae h2);have p2 : ¬ k.toList = [36, 112, 114, 101, 102, 105, 120] := by simpa using q2
   have q3 : (k.toList == [36, 109, 97, 99]) = false := (Zav k [36, 109, 97, 99]).trans (Yae h3);have p3 : ¬ k.toList = [36, 109, 97, 99] := by simpa using q3
   have q4 : (k.toList == [36, 118, 110, 105]) = false := (Zav k [36, 118, 110, 105]).trans (Yae h4);have p4 : ¬ k.toList = [36, 118, 110, 105] := by simpa using q4
   have q5 : (k.toList == [36, 110, 117, 109]) = false := (Zav k [36, 110, 117, 109]).trans (Yae h5);have p5 : ¬ k.toList = [36, 110, 117, 109] := by simpa using q5
   have q6 : (k.toList == [36, 109, 101, 116, 114, 105, 99]) = true := (Zav k [36, 109, 101, 116, 114, 105, 99]).trans (Yal h6);have p6 : k.toList = [36, 109, 101, 116, 114, 105, 99] := by simpa using q6
   have HK : Hid (Zev k s = (Ztq s.data.toList)) := by show _ = _; unfold Zev; rw [Yab h0, Yab h1, Yab h2, Yab h3, Yab h4, Yab h5, Yan h6]
   have HC := _root_.Zhd (Zaqe s w hE hs);unfold Zaat at HC;generalize Ztq s.data.toList = b at *;clear h0 h1 h2 h3 h4 h5 h6 hE;go_enter func156, ntmps156;go_wp2_with fail;refine HC.out.mono ?_;rintro e w1 ⟨⟨f, rfl⟩, hb1⟩;clear HC;go_wp2;go_ret;exact ⟨Zai HK.out.symm, hb1⟩
 by_cases h7 : k = Zzx
 · skip
   have q0 : (k.toList == [36, 110, 97, 109, 101]) = false := (Zav k [36, 110, 97, 109, 101]).trans (Yae h0);have p0 : ¬ k.toList = [36, 110, 97, 109, 101] := by simpa using q0
   have q1 : (k.toList == [36, 105, 112]) = false := (Zav k [36, 105, 112]).trans (Yae h1);have p1 : ¬ k.toList = [36, 105, 112] := by simpa using q1
   have q2 : (k.toList == [36, 112, 114, 101, 102, 105, 120]) = false := (Zav k [36, 112, 114, 101, 102, 105, 120]).trans (Yae h2);have p2 : ¬ k.toList = [36, 112, 114, 101, 102, 105, 120] := by simpa using q2
   have q3 : (k.toList == [36, 109, 97, 99]) = false := (Zav k [36, 109, 97, 99]).trans (Yae h3);have p3 : ¬ k.toList = [36, 109, 97, 99] := by simpa using q3
   have q4 : (k.toList == [36, 118, 110, 105]) = false := (Zav k [36, 118, 110, 105]).trans (Yae h4);have p4 : ¬ k.toList = [36, 118, 110, 105] := by simpa using q4
   have q5 : (k.toList == [36, 110, 117, 109]) = false := (Zav k [36, 110, 117, 109]).trans (Yae h5);have p5 : ¬ k.toList = [36, 110, 117, 109] := by simpa using q5
   have q6 : (k.toList == [36, 109, 101, 116, 114, 105, 99]) = false := (Zav k [36, 109, 101, 116, 114, 105, 99]).trans (Yae h6);have p6 : ¬ k.toList = [36, 109, 101, 116, 114, 105, 99] := by simpa using q6
   have q7 : (k.toList == [36, 97, 99, 116, 105, 111, 110]) = true := (Zav k [36, 97, 99, 116, 105, 111, 110]).trans (Yal h7);have p7 : k.toList = [36, 97, 99, 116, 105, 111, 110] := by simpa using q7
   have HK : Hid (Zev k s = (decide (s = Zabq) || decide (s = Zath))) := by show _ = _; unfold Zev; rw [Yab h0, Yab h1, Yab h2, Yab h3, Yab h4, Yab h5, Yab h6, Yan h7]
   clear h0 h1 h2 h3 h4 h5 h6 h7 hE;by_cases g1 : s = Zabq
   · have y1 : (s.toList == [112, 101, 114, 109, 105, 116]) = true := (Zav s [112, 101, 114, 109, 105, 116]).trans (Yal g1);have z1 : s.toList = [112, 101, 114, 109, 105, 116] := by simpa using y1
     have HK2 : Hid (Zev k s = true) := by show _ = _; rw [HK.out, Yal g1]; rfl
     clear g1 HK;go_enter func156, ntmps156;go_wp2;go_ret;exact ⟨Zai HK2.out.symm, Yac _ _⟩
   · have y1 : (s.toList == [112, 101, 114, 109, 105, 116]) = false := (Zav s [112, 101, 114, 109, 105, 116]).trans (Yae g1);have z1 : ¬ s.toList = [112, 101, 114, 109, 105, 116] := by simpa using y1
     by_cases g2 : s = Zath
     · have y2 : (s.toList == [100, 101, 110, 121]) = true := (Zav s [100, 101, 110, 121]).trans (Yal g2);have z2 : s.toList = [100, 101, 110, 121] := by simpa using y2
       have HK2 : Hid (Zev k s = true) := by show _ = _; rw [HK.out, Yal g2]; simp
       clear g1 g2 HK;go_enter func156, ntmps156;go_wp2;go_ret;exact ⟨Zai HK2.out.symm, Yac _ _⟩
     · have y2 : (s.toList == [100, 101, 110, 121]) = false := (Zav s [100, 101, 110, 121]).trans (Yae g2);have z2 : ¬ s.toList = [100, 101, 110, 121] := by simpa using y2
       have HK2 : Hid (Zev k s = false) := by show _ = _; rw [HK.out, Yae g1, Yae g2]; rfl
       clear g1 g2 HK;go_enter func156, ntmps156;go_wp2;go_ret;exact ⟨Zai HK2.out.symm, Yac _ _⟩
 have q0 : (k.toList == [36, 110, 97, 109, 101]) = false := (Zav k [36, 110, 97, 109, 101]).trans (Yae h0);have p0 : ¬ k.toList = [36, 110, 97, 109, 101] := by simpa using q0
 have q1 : (k.toList == [36, 105, 112]) = false := (Zav k [36, 105, 112]).trans (Yae h1);have p1 : ¬ k.toList = [36, 105, 112] := by simpa using q1
 have q2 : (k.toList == [36, 112, 114, 101, 102, 105, 120]) = false := (Zav k [36, 112, 114, 101, 102, 105, 120]).trans (Yae h2);have p2 : ¬ k.toList = [36, 112, 114, 101, 102, 105, 120] := by simpa using q2
 have q3 : (k.toList == [36, 109, 97, 99]) = false := (Zav k [36, 109, 97, 99]).trans (Yae h3);have p3 : ¬ k.toList = [36, 109, 97, 99] := by simpa using q3
 have q4 : (k.toList == [36, 118, 110, 105]) = false := (Zav k [36, 118, 110, 105]).trans (Yae h4);have p4 : ¬ k.toList = [36, 118, 110, 105] := by simpa using q4
 have q5 : (k.toList == [36, 110, 117, 109]) = false := (Zav k [36, 110, 117, 109]).trans (Yae h5);have p5 : ¬ k.toList = [36, 110, 117, 109] := by simpa using q5
 have q6 : (k.toList == [36, 109, 101, 116, 114, 105, 99]) = false := (Zav k [36, 109, 101, 116, 114, 105, 99]).trans (Yae h6);have p6 : ¬ k.toList = [36, 109, 101, 116, 114, 105, 99] := by simpa using q6
 have q7 : (k.toList == [36, 97, 99, 116, 105, 111, 110]) = false := (Zav k [36, 97, 99, 116, 105, 111, 110]).trans (Yae h7);have p7 : ¬ k.toList = [36, 97, 99, 116, 105, 111, 110] := by simpa using q7
 have HK : Hid (Zev k s = false) := by show _ = _; unfold Zev; rw [Yab h0, Yab h1, Yab h2, Yab h3, Yab h4, Yab h5, Yab h6, Yab h7]
 clear h0 h1 h2 h3 h4 h5 h6 h7;go_enter func156, ntmps156;go_wp2;go_ret;exact ⟨Zai HK.out.symm, Yac _ _⟩
open Tre
def Pv (w : World) (v : Value) (P : List ByteArray) : Prop :=
 ∃ b c, v = .slice (some ⟨b, 0, none⟩) P.length c ∧ P.length ≤ c ∧ c ≤ maxLen ∧ 0 < P.length ∧ Rd w 1 (some ⟨b, 0, none⟩) P.length (sv P)
theorem Pv.below {w w' : World} {v : Value} {P : List ByteArray} (h : Pv w v P) (hb : Below w.heap.size w w') : Pv w' v P := by
 obtain ⟨b, c, h1, h2, h3, h4, h5⟩ := h;exact ⟨b, c, h1, h2, h3, h4, h5.below hb⟩
theorem Pv.head {w : World} {v : Value} {P : List ByteArray} (h : Pv w v P) : ∃ b c s, v = .slice (some ⟨b, 0, none⟩) P.length c ∧ b < w.heap.size ∧ w.cell? ⟨b, 0, none⟩ = some (.string s) := by
 obtain ⟨b, c, h1, -, -, h4, h5⟩ := h;obtain ⟨ad, e, hb, hx⟩ := h5.2 h4;injection e with e
 subst e;have := hx 0 _ (Zja h4);rw [Zae] at this;exact ⟨b, c, P[0], h1, hb, this⟩
theorem Pv.slice {w : World} {v : Value} {P : List ByteArray} (h : Pv w v P) : ∃ b c, v = .slice (some ⟨b, 0, none⟩) P.length c ∧ P.length ≤ c ∧ c ≤ maxLen ∧ 0 < P.length ∧ b < w.heap.size ∧ Pv w (.slice (some ⟨b, 0, none⟩) P.length c) P ∧ Rd w 1 (some ⟨b, 0, none⟩) P.length (sv P) := by
 obtain ⟨b', c', s, h1, hb, -⟩ := h.head;obtain ⟨b, c, rfl, h2, h3, h4, h5⟩ := h;injection h1 with e
 injection e with e
 injection e with e
 subst e;exact ⟨b, c, rfl, h2, h3, h4, hb, ⟨b, c, rfl, h2, h3, h4, h5⟩, h5⟩
theorem Pv.rd {w : World} {b c : Nat} {P : List ByteArray} (h : Pv w (.slice (some ⟨b, 0, none⟩) P.length c) P) : Rd w 1 (some ⟨b, 0, none⟩) P.length (sv P) ∧ P.length ≤ c ∧ c ≤ maxLen ∧ 0 < P.length ∧ b < w.heap.size := by
 obtain ⟨b', c', e, h1, h2, h3, h4, -, h5⟩ := h.slice;injection e with e1 _ e2
 injection e1 with e1
 injection e1 with e1
 subst e1 e2;exact ⟨h5, h1, h2, h3, h4⟩
theorem Pv.one {w : World} {v : Value} {P : List ByteArray} (h : Pv w v P) : v.oneCell' = true := by
 obtain ⟨b, c, rfl, -⟩ := h; rfl
theorem Pv.kept {w w' : World} {v : Value} {P : List ByteArray} {row : Option Nat} (h : Pv w v P) (hg : w.grownBy w' row) (hne : ∀ b c, v = .slice (some ⟨b, 0, none⟩) P.length c → some b ≠ row) : Pv w' v P := by
 obtain ⟨b, c, h1, h2, h3, h4, h5⟩ := h;refine ⟨b, c, h1, h2, h3, h4, h5.1, fun hn => ?_⟩
 obtain ⟨ad, e, hb, hx⟩ := h5.2 hn;injection e with e
 subst e;refine ⟨_, rfl, Ybx hb hg.size, fun j u hu => ?_⟩
 exact hg.cell (hx j u hu) (by rw [Zgo]; exact hne b c h1)
abbrev Item := List ByteArray × List Value
def Zdh : List Value → List Item → List Value
 | v :: vs, x :: xs => v :: x.2 ++ Zdh vs xs
 | _, _ => []
theorem Zfp : ∀ {vs us : List Value} {xs ys : List Item}, vs.length = xs.length → Zdh (vs ++ us) (xs ++ ys) = Zdh vs xs ++ Zdh us ys
 | [], _, [], _, _ => rfl
 | v :: vs, us, x :: xs, ys, h => by
   simp only [Ych, Zdh];rw [Zfp (by simpa using h), Ybl]
 | [], _, _ :: _, _, h => by cases h
 | _ :: _, _, [], _, h => by cases h
theorem Ztr (v : Value) (x : Item) : Zdh [v] [x] = v :: x.2 := by simp [Zdh]
theorem Zoi {k : Nat} : ∀ {vs : List Value} {xs : List Item} (_ : vs.length = xs.length) (_ : ∀ x ∈ xs, x.2.length + 1 = k) (i : Nat) (hi : i < xs.length) (hv : i < vs.length) (j : Nat) (_ : j < k), (Zdh vs xs)[i * k + j]? = (vs[i] :: xs[i].2)[j]?
 | [], [], _, _, i, hi, _, _, _ => absurd hi (by simp)
 | v :: vs, x :: xs, h, hk, i, hi, hv, j, hj => by
   have h1 := hk x (by simp)
   cases i with
   | zero =>
     simp only [Zdh, Yek];rw [Ycf (by simp; omega)]; simp
   | succ i =>
     simp only [Zdh, List.getElem_cons_succ];rw [Ybh (by simp [Nat.add_mul]; omega)]
     rw [← Zoi (vs := vs) (xs := xs) (by simpa using h) (fun y hy => hk y (by simp [hy])) i (by simpa using hi) (by simpa using hv) j hj]
     congr 1;simp [Nat.add_mul]; omega
 | [], _ :: _, h, _, _, _, _, _, _ => by cases h
 | _ :: _, [], h, _, _, _, _, _, _ => by cases h
theorem Zzu {vs : List Value} {xs : List Item} (h1 : ∀ v ∈ vs, v.oneCell' = true) (h2 : ∀ x ∈ xs, ∀ u ∈ x.2, u.oneCell' = true) : ∀ u ∈ Zdh vs xs, u.oneCell' = true := by
 induction vs generalizing xs with
 | nil => intro u hu; simp [Zdh] at hu
 | cons v vs ih =>
   cases xs with
   | nil => intro u hu; simp [Zdh] at hu
   | cons x xs =>
     intro u hu;simp only [Zdh, Ych, Yaw, Ybm] at hu;rcases hu with rfl | hu | hu
     · exact h1 _ (by simp)
     · exact h2 x (by simp) u hu
     · exact ih (fun v hv => h1 v (by simp [hv])) (fun y hy => h2 y (by simp [hy])) u hu
def Pvs (w : World) (vs : List Value) (xs : List Item) : Prop := vs.length = xs.length ∧ ∀ (i : Nat) (h : i < xs.length) (hv : i < vs.length), Pv w vs[i] xs[i].1
theorem Pvs.below {w w' : World} {vs : List Value} {xs : List Item} (h : Pvs w vs xs) (hb : Below w.heap.size w w') : Pvs w' vs xs := ⟨h.1, fun i hi hv => (h.2 i hi hv).below hb⟩
theorem Pvs.append {w : World} {vs us : List Value} {xs ys : List Item} (h : Pvs w vs xs) (k : Pvs w us ys) : Pvs w (vs ++ us) (xs ++ ys) := by
 refine ⟨by rw [Yaj, Yaj, h.1, k.1], fun i hi hv => ?_⟩
 by_cases hlt : i < xs.length
 · rw [Ydv hlt, Ydv (by rw [h.1]; exact hlt)]
   exact h.2 i hlt _
 · have hlv : vs.length = xs.length := h.1;have hi2 : i - xs.length < ys.length := by rw [Yaj] at hi; omega
   have e1 : (xs ++ ys)[i] = ys[i - xs.length] := Yec (by omega)
   have e2 : (vs ++ us)[i] = us[i - vs.length]'(by rw [k.1]; omega) := Yec (by omega)
   rw [e1, e2];have := k.2 (i - xs.length) hi2 (by rw [k.1]; exact hi2)
   simpa only [h.1] using this
theorem Pvs.one {w : World} {vs : List Value} {xs : List Item} (h : Pvs w vs xs) : ∀ v ∈ vs, v.oneCell' = true := by
 intro v hv;obtain ⟨i, hi, rfl⟩ := Ybo hv;exact (h.2 i (by rw [← h.1]; exact hi) hi).one
theorem Pvs.nil {w : World} : Pvs w [] [] := ⟨rfl, fun i h => absurd h (by simp)⟩
theorem Pvs.single {w : World} {v : Value} {x : Item} (h : Pv w v x.1) : Pvs w [v] [x] := by
 refine ⟨rfl, fun i hi _ => ?_⟩
 obtain rfl : i = 0 := by simpa using hi
 exact h
def Pd (w : World) (k : Nat) (A : Option Addr) (xs : List Item) : Prop := (∀ x ∈ xs, x.2.length + 1 = k) ∧ ∃ vs, Pvs w vs xs ∧ Rd w k A xs.length (Zdh vs xs)
theorem Pd.below {w w' : World} {k : Nat} {A : Option Addr} {xs : List Item} (h : Pd w k A xs) (hb : Below w.heap.size w w') : Pd w' k A xs := by
 obtain ⟨h1, vs, h2, h3⟩ := h;exact ⟨h1, vs, h2.below hb, h3.below hb⟩
def Pl (w : World) (base : Nat) (T : TypeId) (k : Nat) (v : Value) (xs : List Item) : Prop :=
 (∀ x ∈ xs, x.2.length + 1 = k) ∧ (xs = [] → v = .slice none 0 0) ∧ ∃ vs, Pvs w vs xs ∧ w.ownsRow base T k v xs.length (Zdh vs xs)
theorem Pl.nil (w : World) (base : Nat) (T : TypeId) (k : Nat) : Pl w base T k (.slice none 0 0) [] := ⟨by simp, fun _ => rfl, [], Pvs.nil, World.ownsRow_nil _ _ _ _⟩
theorem Pl.below {w w' : World} {base : Nat} {T : TypeId} {k : Nat} {v : Value} {xs : List Item} (h : Pl w base T k v xs) (hb : Below w.heap.size w w') : Pl w' base T k v xs := by
 obtain ⟨h1, h2, vs, h3, h4⟩ := h;exact ⟨h1, h2, vs, h3.below hb, Zah h4 hb⟩
theorem Pl.base {w : World} {base b2 : Nat} {T : TypeId} {k : Nat} {v : Value} {xs : List Item} (h : Pl w base T k v xs) (hb : b2 ≤ base) : Pl w b2 T k v xs := by
 obtain ⟨h1, h2, vs, h3, h4⟩ := h;exact ⟨h1, h2, vs, h3, Zkv h4 hb⟩
theorem Pl.read {w : World} {base : Nat} {T : TypeId} {k : Nat} {v : Value} {xs : List Item} (h : Pl w base T k v xs) : ∃ A c, v = .slice A xs.length c ∧ xs.length ≤ c ∧ c ≤ maxLen ∧ Pd w k A xs ∧ (A = none → c = 0) := by
 obtain ⟨h1, h2, vs, h3, h4⟩ := h;obtain ⟨A, c, e, a, b, r, n, -⟩ := Zct h4;exact ⟨A, c, e, a, b, ⟨h1, vs, h3, r⟩, n⟩
theorem Zhm {w : World} {base : Nat} {T : TypeId} {k : Nat} {v : Value} {xs : List Item} (h : Pl w base T k v xs) (_hk : 0 < k) {u : Value} {P : List ByteArray} (hp : Pv w u P) : ∀ b c, u = .slice (some ⟨b, 0, none⟩) P.length c → some b ≠ v.ownBlock := by
 intro b c hu e;obtain ⟨h1, h2, vs, h3, h4⟩ := h;obtain ⟨b', c', s, hu', hb, hs⟩ := hp.head;rw [hu] at hu';injection hu' with hA
 injection hA with hA
 injection hA with hA
 subst hA;rcases xs with _ | ⟨x, xs⟩
 · rw [h2 rfl] at e; cases e
 · cases vs with
   | nil => exact absurd h3.1 (by simp)
   | cons v0 vs =>
     have hx : (Zdh (v0 :: vs) (x :: xs))[0]? = some v0 := by simp [Zdh]
     have hc := h4.cells e.symm 0 v0 hx;rw [Zae, hs] at hc;obtain ⟨b2, c2, h5, -⟩ := h3.2 0 (by simp) (by simp)
     simp only [Yek] at h5;rw [h5] at hc;cases hc
theorem Zmm {P : Program} {ops : Array Oper} {rest : List Oper} {o : Oper} {a : Act} {Q : Exit → Act → World → Prop} (hgd : o.guard = none) (s x : Operand) (t : TypeId)
 (ho : o.op = .call { callee := .builtin .append, args := #[s, x], argTypes := #[t, t] })
 (w0 wr : World) (e : TypeId) (i : TypeInfo) (z : Value) (k bytes : Nat) (ht : P.underlying t = some (.slice e)) (hi : P.info? e = some i) (hz : i.zero = some z)
 (hsize : i.size = k) (hby : i.bytes = bytes) (hzs : z.cells.size = k) (hsz : 0 < k) (hb64 : bytes ≤ 64)
 {v : Value} {xs : List Item} (hown : Pl wr w0.heap.size e k v xs) (hb : Below w0.heap.size w0 wr) (hs : a.eval s = v)
 (u : Value) (y : Item) (hy : y.2.length + 1 = k) (hy1 : ∀ c ∈ y.2, c.oneCell' = true) (hu : Pv wr u y.1) (hx : a.eval x = .slice (some ⟨wr.heap.size, 0, none⟩) 1 1) (hN : xs.length + 1 ≤ 1000000000)
 (h : ∀ v' w', Pl w' w0.heap.size e k v' (xs ++ [y]) → Below w0.heap.size w0 w' → wpList P ops Q rest (a.put o.dst v') w') :
 wpList P ops Q (o :: rest) a (wr.alloc (.cells (u :: y.2).toArray e)) := by
 have hbytes : (xs.length + 1) * bytes ≤ 140737488355328 := Yas (Ydm hN hb64) (by decide)
 have hba : Below wr.heap.size wr (wr.alloc (.cells (u :: y.2).toArray e)) := (Yac _ _).alloc (Yaf _) _;have hP := hown.below hba;obtain ⟨-, -, vs, h3, h4⟩ := hP;refine wpList_append_own _ hgd s x t ho w0.heap.size e i z k bytes ht hi hz hsize hby hzs hsz v xs.length (Zdh vs xs) hs h4 ⟨wr.heap.size, 0, none⟩ 1 1 (u :: y.2) hx (by simp; omega) ?_ ?_ (by unfold maxLen; omega) hbytes (Yas hb.size (by simp)) ?_
 · intro j c hc;rw [Zae, Ybf, World.cell?_alloc_at _ _ _ _ rfl];simpa using hc
 · intro c hc;rcases Yaw.1 hc with rfl | hc
   · exact hu.one
   · exact hy1 c hc
 · intro v' w' hown' hg hnil;refine h v' w' ?_ ((hb.alloc hb.size _).grown hg (Yas hb.size (by simp)) fun q hq => (h4.lt q hq).1)
   have hP := hown.below hba;refine ⟨fun c hc => ?_, fun e => by simp at e, vs ++ [u], ?_, ?_⟩
   · rcases Ybm.1 hc with hc | hc
     · exact hown.1 c hc
     · rw [Yce.1 hc]; exact hy
   · have e1 : Pvs w' vs xs := ⟨h3.1, fun i hi hv => (h3.2 i hi hv).kept hg (Zhm hP hsz (h3.2 i hi hv))⟩
     exact e1.append (Pvs.single ((hu.below hba).kept hg (Zhm hP hsz (hu.below hba))))
   · rw [Zfp h3.1, Ztr, Yaj];exact hown'
theorem Zank {P : Program} {ops : Array Oper} {rest : List Oper} {o : Oper} {a : Act} {Q : Exit → Act → World → Prop} (hgd : o.guard = none) (s x : Operand) (t : TypeId)
 (ho : o.op = .call { callee := .builtin .append, args := #[s, x], argTypes := #[t, t] })
 (w0 wr : World) (e : TypeId) (i : TypeInfo) (z : Value) (k bytes : Nat) (ht : P.underlying t = some (.slice e)) (hi : P.info? e = some i) (hz : i.zero = some z)
 (hsize : i.size = k) (hby : i.bytes = bytes) (hzs : z.cells.size = k) (hsz : 0 < k) (hb64 : bytes ≤ 64)
 {v : Value} {xs : List Item} (hown : Pl wr w0.heap.size e k v xs) (hb : Below w0.heap.size w0 wr) (hs : a.eval s = v)
 (A : Option Addr) (c : Nat) (ys : List Item) (hx : a.eval x = .slice A ys.length c) (hR : Pd wr k A ys) (hnil : A = none → c = 0) (h1 : ∀ y ∈ ys, ∀ u ∈ y.2, u.oneCell' = true)
 (hN : xs.length + ys.length ≤ 1000000000)
 (h : ∀ v' w', Pl w' w0.heap.size e k v' (xs ++ ys) → Below w0.heap.size w0 w' → wpList P ops Q rest (a.put o.dst v') w') :
 wpList P ops Q (o :: rest) a wr := by
 have hbytes : (xs.length + ys.length) * bytes ≤ 140737488355328 := Yas (Ydm hN hb64) (by decide)
 obtain ⟨hk, us, hu, hr⟩ := hR;have hown0 := hown;obtain ⟨hx1, hx2, vs, h3, h4⟩ := hown;rcases A with _ | ad
 · have hm : ys.length = 0 := by
    rcases Ybn ys.length with h0 | h0
    · exact h0
    · obtain ⟨ad, h, -⟩ := hr.2 h0;cases h
   have hy0 : ys = [] := Yaq hm;subst hy0;obtain rfl := hnil rfl;exact wpList_append_own_none hgd s x t ho w0.heap.size e i k ht hi v xs.length (Zdh vs xs) hs h4 hx (h v wr (by simpa using hown0) hb)
 · refine wpList_append_own _ hgd s x t ho w0.heap.size e i z k bytes ht hi hz hsize hby hzs hsz v xs.length (Zdh vs xs) hs h4 ad ys.length c (Zdh us ys) hx hr.1 ?_ (Zzu hu.one h1) (by unfold maxLen; omega) hbytes hb.size ?_
   · intro j u hu;obtain ⟨ad', e', -, hc⟩ := hr.cell hu;injection e' with e'
     subst e';exact hc
   · intro v' w' hown' hg hn;refine h v' w' ?_ (hb.grown hg hb.size fun q hq => (h4.lt q hq).1)
     refine ⟨fun x hx => ?_, fun e => ?_, vs ++ us, ?_, ?_⟩
     · rcases Ybm.1 hx with hx | hx
       · exact hx1 x hx
       · exact hk x hx
     · obtain ⟨rfl, rfl⟩ := Yem.1 e;exact hn.2 ⟨hx2 rfl, rfl⟩
     · have e1 : Pvs w' vs xs := ⟨h3.1, fun i hi hv => (h3.2 i hi hv).kept hg (Zhm hown0 hsz (h3.2 i hi hv))⟩
       have e2 : Pvs w' us ys := ⟨hu.1, fun i hi hv => (hu.2 i hi hv).kept hg (Zhm hown0 hsz (hu.2 i hi hv))⟩
       exact e1.append e2
     · rw [Zfp h3.1, Yaj];exact hown'
theorem Pd.at {w : World} {k : Nat} {A : Option Addr} {xs : List Item} (h : Pd w k A xs) {i : Nat} (hi : i < xs.length) :
 ∃ B O v, A = some ⟨B, O, none⟩ ∧ B < w.heap.size ∧ (⟨B, O, none⟩ : Addr).add (i * k) = ⟨B, O + i * k, none⟩ ∧ Pv w v xs[i].1 ∧ w.cell? ⟨B, O + i * k, none⟩ = some v ∧ ∀ j u, xs[i].2[j]? = some u → w.cell? ⟨B, O + i * k + (j + 1), none⟩ = some u := by
 obtain ⟨hk, vs, hv, hr⟩ := h;obtain ⟨ad, e, hb, hx⟩ := hr.2 (by omega)
 have hkk := hk xs[i] (Yat hi);have hiv : i < vs.length := by rw [hv.1]; exact hi
 have g := Zoi hv.1 hk i hi hiv;have h0 := hx (i * k + 0) vs[i] (by rw [g 0 (by omega)]; rfl)
 have hs : ad.spot = none := by
  have := hx 0 _ (by
   have := Zoi hv.1 hk 0 (by omega) (by omega) 0 (by have := hk xs[0] (Yat _); omega)
   rw [Nat.zero_mul, Ybf] at this;rw [this]; rfl)
  exact World.cell?_spot this
 obtain ⟨B, O, sp⟩ := ad;obtain rfl : sp = none := hs;rw [Zae] at h0;refine ⟨B, O, vs[i], e, hb, Zae _ _ _, hv.2 i hi hiv, h0, fun j u hu => ?_⟩
 have hj : j < xs[i].2.length := (Yba.1 hu).1;have := hx (i * k + (j + 1)) u (by rw [g (j + 1) (by omega)]; exact hu)
 rw [Zae, ← Ydg] at this;exact this
end Go.Proofs.Zq
