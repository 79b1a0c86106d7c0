import Derived.Test.YtkbojechhmmkcaaGreatDoorJ10
set_option linter.unusedVariables false
set_option linter.unusedSimpArgs false
set_option maxHeartbeats 4000000
set_option maxRecDepth 100000
namespace Sch
open Go Go.Lib Adr Mtr Tre
def Zabr:List UInt8:= [97,98,99,100,101,102,103,104,105,106,107,108,109,110,111,112,113,114,115,116,117,118,119,120,121,122,48,49,50,51,52,53,54,55,56,57,45]
theorem Zaya (c:UInt8):Zabr.contains c=isNm c:=by
 have: ∀ n:Fin 256,Zabr.contains (UInt8.ofNat n)=isNm (UInt8.ofNat n):=by decide+kernel
 have h:=this ⟨c.toNat,c.toNat_lt⟩;simpa using h
theorem Zaww (l:List UInt8):(trimS l Zabr).isEmpty=l.all isNm:=by
 rw[Ycl,List.isEmpty_iff,Zafg,show(fun x=>Zabr.contains x)=isNm from funext Zaya]
theorem Zax (k:ByteArray) (l:List UInt8):(k.toList==l)=decide (k=⟨l.toArray⟩):=by
 rw[Lib.toList_data,Ycl,beq_iff_eq,Yap];constructor
 · rintro rfl;exact(Lib.mk_data k).symm
 · rintro rfl;simp
end Sch
namespace Go.Proofs.Zq
open Tryz
open Go Go.RowKit Sch Adr Mtr
theorem Zabh {s:ByteArray} (h:s.size=0):s.toList.isEmpty=true:=by
 rw[Lib.toList_data,List.isEmpty_iff];exact Ycv.1 (by rw[Zat];exact h)
theorem Zarl (s:ByteArray) (w:World) (hs:s.size≤100000000):
 Calls prog 206 #[.string s] w fun e w'=>e= .returned (.bool (nameB s.data.toList))∧Below w.heap.size w w':=by
 have HX:Hid (nameB s.data.toList=(decide (1≤s.data.toList.length)&&decide (s.data.toList.length≤16)&&Zale (s.data.toList.getD 0 0)&&s.data.toList.all isNm)):=rfl;have hsz:=Zat s;have HZ:=Zhd hsz;clear hsz;by_cases h0:s.size=0
 · have he:=Zabh h0;have he2:s.toList= []:=by simpa using he
   have HK:Hid (nameB s.data.toList=false):=by show _=_;rw[HX.out,HZ.out,Yah (by omega)];rfl
   clear HX h0;go_enter func206,ntmps206;go_wp2;go_ret;exact⟨Zaj HK.out.symm,Yae _ _⟩
 · have hp :0<s.size:=by omega
   have he:=Zfx hp;have he2: ¬ s.toList= []:=by simpa using he
   by_cases h16:s.size≤16
   · have hg:Hid (s.data.toList.getD 0 0=s[0]):=by
      show _=_;rw[Yaq,Yaj (by rw[HZ.out];exact hp)];rfl
     have HX1:Hid (nameB s.data.toList=(Zale s[0]&&s.data.toList.all isNm)):=by
      show _=_;rw[HX.out,HZ.out,hg.out,Yal (p:=1≤s.size) (by omega),Yal h16];simp
     have HL:Hid (Zale s[0]=(decide (97≤s[0].toNat)&&decide (s[0].toNat≤122))):=rfl;have h16':decide ((s.size:Int)≤16)=true:=Yal (by omega)
     by_cases h1:97≤s[0].toNat
     · by_cases h2:s[0].toNat≤122
       · have HX2:Hid (nameB s.data.toList=s.data.toList.all isNm):=by
          show _=_;rw[HX1.out,HL.out,Yal h1,Yal h2];rfl
         have HT:=Zhd (Zaff s ⟨#[97,98,99,100,101,102,103,104,105,106,107,108,109,110,111,112,113,114,115,116,117,118,119,120,121,122,48,49,50,51,52,53,54,55,56,57,45]⟩ w hs (by decide) (by decide))
         have HE:Hid ((⟨(Lib.trimS s.data.toList Zabr).toArray⟩:ByteArray).toList.isEmpty=s.data.toList.all isNm):=by show _=_;rw[Zkw];exact Zaww _
         have HT2:Hid (Calls prog 228 #[.string s, .string ⟨#[97,98,99,100,101,102,103,104,105,106,107,108,109,110,111,112,113,114,115,116,117,118,119,120,121,122,48,49,50,51,52,53,54,55,56,57,45]⟩] w fun e w'=>e= .returned (.string ⟨(Lib.trimS s.data.toList Zabr).toArray⟩)∧Below w.heap.size w w'):=HT.out
         clear HX HX1 HL HT hg h0;generalize (⟨(Lib.trimS s.data.toList Zabr).toArray⟩:ByteArray)=t at *;generalize s.data.toList.all isNm=b at *;go_enter func206,ntmps206;cases b with
         | true=>
           have ht:t.toList.isEmpty=true:=HE.out;have ht2:t.toList= []:=by simpa using ht
           go_wp2_with fail;refine HT2.out.mono ?_;rintro e w1 ⟨rfl,hb1⟩;go_wp2;go_ret;exact⟨Zaj HX2.out.symm,hb1⟩
         | false=>
           have ht:t.toList.isEmpty=false:=HE.out;have ht2: ¬ t.toList= []:=by simpa using ht
           go_wp2_with fail;refine HT2.out.mono ?_;rintro e w1 ⟨rfl,hb1⟩;go_wp2;go_ret;exact⟨Zaj HX2.out.symm,hb1⟩
       · have HK:Hid (nameB s.data.toList=false):=by show _=_;rw[HX1.out,HL.out,Yah h2];simp
         clear HX HX1 HL hg h0;go_enter func206,ntmps206;go_wp2;go_ret;exact⟨Zaj HK.out.symm,Yae _ _⟩
     · have HK:Hid (nameB s.data.toList=false):=by show _=_;rw[HX1.out,HL.out,Yah h1];simp
       clear HX HX1 HL hg h0;go_enter func206,ntmps206;go_wp2;go_ret;exact⟨Zaj HK.out.symm,Yae _ _⟩
   · have h16':decide ((s.size:Int)≤16)=false:=Yah (by omega)
     have HK:Hid (nameB s.data.toList=false):=by show _=_;rw[HX.out,HZ.out,Yah h16];simp
     clear HX h0;go_enter func206,ntmps206;go_wp2;go_ret;exact⟨Zaj HK.out.symm,Yae _ _⟩
theorem Zatj (k s:ByteArray) (w:World) (hE:Env w) (hs:s.size≤100000000):
 Calls prog 173 #[.string k, .string s] w fun e w'=>e= .returned (.bool (Zez k s))∧Below w.heap.size w w':=by
 by_cases h0:k=Zgs
 · skip
   have q0:(k.toList== [36,110,97,109,101])=true:=(Zax k [36,110,97,109,101]).trans (Yal h0);have p0:k.toList= [36,110,97,109,101]:=by simpa using q0
   have HK:Hid (Zez k s=(nameB s.data.toList)):=by show _=_;unfold Zez;rw[Yan h0]
   have HC:=Zhd (Zarl s w hs);generalize nameB s.data.toList=b at *;clear h0 hE;go_enter func173,ntmps173;go_wp2_with fail;refine HC.out.mono ?_;rintro e w1 ⟨rfl,hb1⟩;clear HC;go_wp2;go_ret;exact⟨Zaj HK.out.symm,hb1⟩
 by_cases h1:k=tIp
 · skip
   have q0:(k.toList== [36,110,97,109,101])=false:=(Zax k [36,110,97,109,101]).trans (Yah h0);have p0: ¬ k.toList= [36,110,97,109,101]:=by simpa using q0
   have q1:(k.toList== [36,105,112])=true:=(Zax k [36,105,112]).trans (Yal h1);have p1:k.toList= [36,105,112]:=by simpa using q1
   have HK:Hid (Zez k s=(decide (0≤ip s.data.toList))):=by show _=_;unfold Zez;rw[Yad h0,Yan h1]
   have HC:=Zhd (Zadx s w hE hs);unfold Zln at HC;generalize decide (0≤ip s.data.toList)=b at *;clear h0 h1 hE;go_enter func173,ntmps173;go_wp2_with fail;refine HC.out.mono ?_;rintro e w1 ⟨rfl,hb1⟩;clear HC;go_wp2;go_ret;exact⟨Zaj HK.out.symm,hb1⟩
 by_cases h2:k=Zhk
 · skip
   have q0:(k.toList== [36,110,97,109,101])=false:=(Zax k [36,110,97,109,101]).trans (Yah h0);have p0: ¬ k.toList= [36,110,97,109,101]:=by simpa using q0
   have q1:(k.toList== [36,105,112])=false:=(Zax k [36,105,112]).trans (Yah h1);have p1: ¬ k.toList= [36,105,112]:=by simpa using q1
   have q2:(k.toList== [36,112,114,101,102,105,120])=true:=(Zax k [36,112,114,101,102,105,120]).trans (Yal h2);have p2:k.toList= [36,112,114,101,102,105,120]:=by simpa using q2
   have HK:Hid (Zez k s=(decide (0≤(pre s.data.toList).1))):=by show _=_;unfold Zez;rw[Yad h0,Yad h1,Yan h2]
   have HC:=Zhd (Zamv s w hE hs);unfold Zji at HC;generalize decide (0≤(pre s.data.toList).1)=b at *;clear h0 h1 h2 hE;go_enter func173,ntmps173;go_wp2_with fail;refine HC.out.mono ?_;rintro e w1 ⟨rfl,hb1⟩;clear HC;go_wp2;go_ret;exact⟨Zaj HK.out.symm,hb1⟩
 by_cases h3:k=tMac
 · skip
   have q0:(k.toList== [36,110,97,109,101])=false:=(Zax k [36,110,97,109,101]).trans (Yah h0);have p0: ¬ k.toList= [36,110,97,109,101]:=by simpa using q0
   have q1:(k.toList== [36,105,112])=false:=(Zax k [36,105,112]).trans (Yah h1);have p1: ¬ k.toList= [36,105,112]:=by simpa using q1
   have q2:(k.toList== [36,112,114,101,102,105,120])=false:=(Zax k [36,112,114,101,102,105,120]).trans (Yah h2);have p2: ¬ k.toList= [36,112,114,101,102,105,120]:=by simpa using q2
   have q3:(k.toList== [36,109,97,99])=true:=(Zax k [36,109,97,99]).trans (Yal h3);have p3:k.toList= [36,109,97,99]:=by simpa using q3
   have HK:Hid (Zez k s=(decide (0≤mac s.data.toList))):=by show _=_;unfold Zez;rw[Yad h0,Yad h1,Yad h2,Yan h3]
   have HC:=Zhd (Zavr s w hE hs);unfold Zln at HC;generalize decide (0≤mac s.data.toList)=b at *;clear h0 h1 h2 h3 hE;go_enter func173,ntmps173;go_wp2_with fail;refine HC.out.mono ?_;rintro e w1 ⟨rfl,hb1⟩;clear HC;go_wp2;go_ret;exact⟨Zaj HK.out.symm,hb1⟩
 by_cases h4:k=tVni
 · skip
   have q0:(k.toList== [36,110,97,109,101])=false:=(Zax k [36,110,97,109,101]).trans (Yah h0);have p0: ¬ k.toList= [36,110,97,109,101]:=by simpa using q0
   have q1:(k.toList== [36,105,112])=false:=(Zax k [36,105,112]).trans (Yah h1);have p1: ¬ k.toList= [36,105,112]:=by simpa using q1
   have q2:(k.toList== [36,112,114,101,102,105,120])=false:=(Zax k [36,112,114,101,102,105,120]).trans (Yah h2);have p2: ¬ k.toList= [36,112,114,101,102,105,120]:=by simpa using q2
   have q3:(k.toList== [36,109,97,99])=false:=(Zax k [36,109,97,99]).trans (Yah h3);have p3: ¬ k.toList= [36,109,97,99]:=by simpa using q3
   have q4:(k.toList== [36,118,110,105])=true:=(Zax k [36,118,110,105]).trans (Yal h4);have p4:k.toList= [36,118,110,105]:=by simpa using q4
   have HK:Hid (Zez k s=(numIn s.data.toList 1 16777215)):=by show _=_;unfold Zez;rw[Yad h0,Yad h1,Yad h2,Yad h3,Yan h4]
   have HC:=Zhd (Zop s 1 16777215 w hE (by omega))
   unfold Zlr at HC;generalize (if numIn s.data.toList 1 16777215=true then num s.data.toList else 0)=z at HC
   generalize numIn s.data.toList 1 16777215=b at *;clear h0 h1 h2 h3 h4 hE;go_enter func173,ntmps173;go_wp2_with fail;refine HC.out.mono ?_;rintro e w1 ⟨rfl,hb1⟩;clear HC;go_wp2;go_ret;exact⟨Zaj HK.out.symm,hb1⟩
 by_cases h5:k=tNum
 · skip
   have q0:(k.toList== [36,110,97,109,101])=false:=(Zax k [36,110,97,109,101]).trans (Yah h0);have p0: ¬ k.toList= [36,110,97,109,101]:=by simpa using q0
   have q1:(k.toList== [36,105,112])=false:=(Zax k [36,105,112]).trans (Yah h1);have p1: ¬ k.toList= [36,105,112]:=by simpa using q1
   have q2:(k.toList== [36,112,114,101,102,105,120])=false:=(Zax k [36,112,114,101,102,105,120]).trans (Yah h2);have p2: ¬ k.toList= [36,112,114,101,102,105,120]:=by simpa using q2
   have q3:(k.toList== [36,109,97,99])=false:=(Zax k [36,109,97,99]).trans (Yah h3);have p3: ¬ k.toList= [36,109,97,99]:=by simpa using q3
   have q4:(k.toList== [36,118,110,105])=false:=(Zax k [36,118,110,105]).trans (Yah h4);have p4: ¬ k.toList= [36,118,110,105]:=by simpa using q4
   have q5:(k.toList== [36,110,117,109])=true:=(Zax k [36,110,117,109]).trans (Yal h5);have p5:k.toList= [36,110,117,109]:=by simpa using q5
   have HK:Hid (Zez k s=(numIn s.data.toList 1 1000)):=by show _=_;unfold Zez;rw[Yad h0,Yad h1,Yad h2,Yad h3,Yad h4,Yan h5]
   have HC:=Zhd (Zop s 1 1000 w hE (by omega))
   unfold Zlr at HC;generalize (if numIn s.data.toList 1 1000=true then num s.data.toList else 0)=z at HC
   generalize numIn s.data.toList 1 1000=b at *;clear h0 h1 h2 h3 h4 h5 hE;go_enter func173,ntmps173;go_wp2_with fail;refine HC.out.mono ?_;rintro e w1 ⟨rfl,hb1⟩;clear HC;go_wp2;go_ret;exact⟨Zaj HK.out.symm,hb1⟩
 by_cases h6:k=Zacl
 · skip
   have q0:(k.toList== [36,110,97,109,101])=false:=(Zax k [36,110,97,109,101]).trans (Yah h0);have p0: ¬ k.toList= [36,110,97,109,101]:=by simpa using q0
   have q1:(k.toList== [36,105,112])=false:=(Zax k [36,105,112]).trans (Yah h1);have p1: ¬ k.toList= [36,105,112]:=by simpa using q1
   have q2:(k.toList== [36,112,114,101,102,105,120])=false:=(Zax k [36,112,114,101,102,105,120]).trans (Yah h2);have p2: ¬ k.toList= [36,112,114,101,102,105,120]:=by simpa using q2
   have q3:(k.toList== [36,109,97,99])=false:=(Zax k [36,109,97,99]).trans (Yah h3);have p3: ¬ k.toList= [36,109,97,99]:=by simpa using q3
   have q4:(k.toList== [36,118,110,105])=false:=(Zax k [36,118,110,105]).trans (Yah h4);have p4: ¬ k.toList= [36,118,110,105]:=by simpa using q4
   have q5:(k.toList== [36,110,117,109])=false:=(Zax k [36,110,117,109]).trans (Yah h5);have p5: ¬ k.toList= [36,110,117,109]:=by simpa using q5
   have q6:(k.toList== [36,109,101,116,114,105,99])=true:=(Zax k [36,109,101,116,114,105,99]).trans (Yal h6);have p6:k.toList= [36,109,101,116,114,105,99]:=by simpa using q6
   have HK:Hid (Zez k s=(Zuf s.data.toList)):=by show _=_;unfold Zez;rw[Yad h0,Yad h1,Yad h2,Yad h3,Yad h4,Yad h5,Yan h6]
   have HC:=Zhd (Zasl s w hE hs);unfold Zzy at HC;generalize Zuf s.data.toList=b at *;clear h0 h1 h2 h3 h4 h5 h6 hE;go_enter func173,ntmps173;go_wp2_with fail;refine HC.out.mono ?_;rintro e w1 ⟨⟨f,rfl⟩,hb1⟩;clear HC;go_wp2;go_ret;exact⟨Zaj HK.out.symm,hb1⟩
 by_cases h7:k=Zack
 · skip
   have q0:(k.toList== [36,110,97,109,101])=false:=(Zax k [36,110,97,109,101]).trans (Yah h0);have p0: ¬ k.toList= [36,110,97,109,101]:=by simpa using q0
   have q1:(k.toList== [36,105,112])=false:=(Zax k [36,105,112]).trans (Yah h1);have p1: ¬ k.toList= [36,105,112]:=by simpa using q1
   have q2:(k.toList== [36,112,114,101,102,105,120])=false:=(Zax k [36,112,114,101,102,105,120]).trans (Yah h2);have p2: ¬ k.toList= [36,112,114,101,102,105,120]:=by simpa using q2
   have q3:(k.toList== [36,109,97,99])=false:=(Zax k [36,109,97,99]).trans (Yah h3);have p3: ¬ k.toList= [36,109,97,99]:=by simpa using q3
   have q4:(k.toList== [36,118,110,105])=false:=(Zax k [36,118,110,105]).trans (Yah h4);have p4: ¬ k.toList= [36,118,110,105]:=by simpa using q4
   have q5:(k.toList== [36,110,117,109])=false:=(Zax k [36,110,117,109]).trans (Yah h5);have p5: ¬ k.toList= [36,110,117,109]:=by simpa using q5
   have q6:(k.toList== [36,109,101,116,114,105,99])=false:=(Zax k [36,109,101,116,114,105,99]).trans (Yah h6);have p6: ¬ k.toList= [36,109,101,116,114,105,99]:=by simpa using q6
   have q7:(k.toList== [36,97,99,116,105,111,110])=true:=(Zax k [36,97,99,116,105,111,110]).trans (Yal h7);have p7:k.toList= [36,97,99,116,105,111,110]:=by simpa using q7
   have HK:Hid (Zez k s=(decide (s=Zacq)||decide (s=Zaxa))):=by show _=_;unfold Zez;rw[Yad h0,Yad h1,Yad h2,Yad h3,Yad h4,Yad h5,Yad h6,Yan h7]
   clear h0 h1 h2 h3 h4 h5 h6 h7 hE;by_cases g1:s=Zacq
   · have y1:(s.toList== [112,101,114,109,105,116])=true:=(Zax s [112,101,114,109,105,116]).trans (Yal g1);have z1:s.toList= [112,101,114,109,105,116]:=by simpa using y1
     have HK2:Hid (Zez k s=true):=by show _=_;rw[HK.out,Yal g1];rfl
     clear g1 HK;go_enter func173,ntmps173;go_wp2;go_ret;exact⟨Zaj HK2.out.symm,Yae _ _⟩
   · have y1:(s.toList== [112,101,114,109,105,116])=false:=(Zax s [112,101,114,109,105,116]).trans (Yah g1);have z1: ¬ s.toList= [112,101,114,109,105,116]:=by simpa using y1
     by_cases g2:s=Zaxa
     · have y2:(s.toList== [100,101,110,121])=true:=(Zax s [100,101,110,121]).trans (Yal g2);have z2:s.toList= [100,101,110,121]:=by simpa using y2
       have HK2:Hid (Zez k s=true):=by show _=_;rw[HK.out,Yal g2];simp
       clear g1 g2 HK;go_enter func173,ntmps173;go_wp2;go_ret;exact⟨Zaj HK2.out.symm,Yae _ _⟩
     · have y2:(s.toList== [100,101,110,121])=false:=(Zax s [100,101,110,121]).trans (Yah g2);have z2: ¬ s.toList= [100,101,110,121]:=by simpa using y2
       have HK2:Hid (Zez k s=false):=by show _=_;rw[HK.out,Yah g1,Yah g2];rfl
       clear g1 g2 HK;go_enter func173,ntmps173;go_wp2;go_ret;exact⟨Zaj HK2.out.symm,Yae _ _⟩
 have q0:(k.toList== [36,110,97,109,101])=false:=(Zax k [36,110,97,109,101]).trans (Yah h0);have p0: ¬ k.toList= [36,110,97,109,101]:=by simpa using q0
 have q1:(k.toList== [36,105,112])=false:=(Zax k [36,105,112]).trans (Yah h1);have p1: ¬ k.toList= [36,105,112]:=by simpa using q1
 have q2:(k.toList== [36,112,114,101,102,105,120])=false:=(Zax k [36,112,114,101,102,105,120]).trans (Yah h2);have p2: ¬ k.toList= [36,112,114,101,102,105,120]:=by simpa using q2
 have q3:(k.toList== [36,109,97,99])=false:=(Zax k [36,109,97,99]).trans (Yah h3);have p3: ¬ k.toList= [36,109,97,99]:=by simpa using q3
 have q4:(k.toList== [36,118,110,105])=false:=(Zax k [36,118,110,105]).trans (Yah h4);have p4: ¬ k.toList= [36,118,110,105]:=by simpa using q4
 have q5:(k.toList== [36,110,117,109])=false:=(Zax k [36,110,117,109]).trans (Yah h5);have p5: ¬ k.toList= [36,110,117,109]:=by simpa using q5
 have q6:(k.toList== [36,109,101,116,114,105,99])=false:=(Zax k [36,109,101,116,114,105,99]).trans (Yah h6);have p6: ¬ k.toList= [36,109,101,116,114,105,99]:=by simpa using q6
 have q7:(k.toList== [36,97,99,116,105,111,110])=false:=(Zax k [36,97,99,116,105,111,110]).trans (Yah h7);have p7: ¬ k.toList= [36,97,99,116,105,111,110]:=by simpa using q7
 have HK:Hid (Zez k s=false):=by show _=_;unfold Zez;rw[Yad h0,Yad h1,Yad h2,Yad h3,Yad h4,Yad h5,Yad h6,Yad h7]
 clear h0 h1 h2 h3 h4 h5 h6 h7;go_enter func173,ntmps173;go_wp2;go_ret;exact⟨Zaj HK.out.symm,Yae _ _⟩
open Tre
def Pv (w:World) (v:Value) (P:List ByteArray):Prop:=
 ∃ b c,v= .slice (some ⟨b,0,none⟩) P.length c∧P.length≤c∧c≤maxLen∧0<P.length∧Rd w 1 (some ⟨b,0,none⟩) P.length (sv P)
theorem Pv.below {w w':World} {v:Value} {P:List ByteArray} (h:Pv w v P) (hb:Below w.heap.size w w'):Pv w' v P:=by
 obtain⟨b,c,h1,h2,h3,h4,h5⟩:=h;exact⟨b,c,h1,h2,h3,h4,h5.below hb⟩
theorem Pv.head {w:World} {v:Value} {P:List ByteArray} (h:Pv w v P): ∃ b c s,v= .slice (some ⟨b,0,none⟩) P.length c∧b<w.heap.size∧w.cell? ⟨b,0,none⟩=some (.string s):=by
 obtain⟨b,c,h1,-,-,h4,h5⟩:=h;obtain⟨ad,e,hb,hx⟩:=h5.2 h4;injection e with e
 subst e;have:=hx 0 _ (Zjk h4);rw[Zag]at this;exact⟨b,c,P[0],h1,hb,this⟩
theorem Pv.slice {w:World} {v:Value} {P:List ByteArray} (h:Pv w v P): ∃ b c,v= .slice (some ⟨b,0,none⟩) P.length c∧P.length≤c∧c≤maxLen∧0<P.length∧b<w.heap.size∧Pv w (.slice (some ⟨b,0,none⟩) P.length c) P∧Rd w 1 (some ⟨b,0,none⟩) P.length (sv P):=by
 obtain⟨b',c',s,h1,hb,-⟩:=h.head;obtain⟨b,c,rfl,h2,h3,h4,h5⟩:=h;injection h1 with e
 injection e with e
 injection e with e
 subst e;exact⟨b,c,rfl,h2,h3,h4,hb,⟨b,c,rfl,h2,h3,h4,h5⟩,h5⟩
theorem Pv.rd {w:World} {b c:Nat} {P:List ByteArray} (h:Pv w (.slice (some ⟨b,0,none⟩) P.length c) P):Rd w 1 (some ⟨b,0,none⟩) P.length (sv P)∧P.length≤c∧c≤maxLen∧0<P.length∧b<w.heap.size:=by
 obtain⟨b',c',e,h1,h2,h3,h4,-,h5⟩:=h.slice;injection e with e1 _ e2
 injection e1 with e1
 injection e1 with e1
 subst e1 e2;exact⟨h5,h1,h2,h3,h4⟩
theorem Pv.one {w:World} {v:Value} {P:List ByteArray} (h:Pv w v P):v.oneCell'=true:=by
 obtain⟨b,c,rfl,-⟩:=h;rfl
theorem Pv.kept {w w':World} {v:Value} {P:List ByteArray} {row:Option Nat} (h:Pv w v P) (hg:w.grownBy w' row) (hne: ∀ b c,v= .slice (some ⟨b,0,none⟩) P.length c→some b≠row):Pv w' v P:=by
 obtain⟨b,c,h1,h2,h3,h4,h5⟩:=h;refine⟨b,c,h1,h2,h3,h4,h5.1,fun hn=> ?_⟩
 obtain⟨ad,e,hb,hx⟩:=h5.2 hn;injection e with e
 subst e;refine⟨_,rfl,Ybp hb hg.size,fun j u hu=> ?_⟩
 exact hg.cell (hx j u hu) (by rw[Zge];exact hne b c h1)
abbrev Item:=List ByteArray×List Value
def Zdl:List Value→List Item→List Value
 |v::vs,x::xs=>v::x.2++Zdl vs xs
 |_,_=> []
theorem Zfw: ∀ {vs us:List Value} {xs ys:List Item},vs.length=xs.length→Zdl (vs++us) (xs++ys)=Zdl vs xs++Zdl us ys
 | [],_,[],_,_=>rfl
 | v::vs,us,x::xs,ys,h=>by
   simp only[Ycj,Zdl];rw[Zfw (by simpa using h),Ybm]
 | [],_,_::_,_,h=>by cases h
 |_::_,_,[],_,h=>by cases h
theorem Ztu (v:Value) (x:Item):Zdl [v] [x]=v::x.2:=by simp[Zdl]
theorem Zoi {k:Nat}: ∀ {vs:List Value} {xs:List Item} (_:vs.length=xs.length) (_: ∀ x∈xs,x.2.length+1=k) (i:Nat) (hi:i<xs.length) (hv:i<vs.length) (j:Nat) (_:j<k),(Zdl vs xs)[i*k+j]?=(vs[i]::xs[i].2)[j]?
 | [],[],_,_,i,hi,_,_,_=>absurd hi (by simp)
 | v ::vs,x::xs,h,hk,i,hi,hv,j,hj=>by
   have h1:=hk x (by simp)
   cases i with
   | zero=>
     simp only[Zdl,Yej];rw[Yca (by simp;omega)];simp
   | succ i=>
     simp only[Zdl,List.getElem_cons_succ];rw[Ybi (by simp[Nat.add_mul];omega)]
     rw[←Zoi (vs:=vs) (xs:=xs) (by simpa using h) (fun y hy=>hk y (by simp[hy])) i (by simpa using hi) (by simpa using hv) j hj]
     congr 1;simp[Nat.add_mul];omega
 | [],_::_,h,_,_,_,_,_,_=>by cases h
 |_::_,[],h,_,_,_,_,_,_=>by cases h
theorem Zaaz {vs:List Value} {xs:List Item} (h1: ∀ v∈vs,v.oneCell'=true) (h2: ∀ x∈xs,∀ u∈x.2,u.oneCell'=true): ∀ u∈Zdl vs xs,u.oneCell'=true:=by
 induction vs generalizing xs with
 |nil=>intro u hu;simp[Zdl]at hu
 | cons v vs ih=>
   cases xs with
   |nil=>intro u hu;simp[Zdl]at hu
   | cons x xs=>
     intro u hu;simp only[Zdl,Ycj,Yax,Ybl]at hu;rcases hu with rfl|hu|hu
     · exact h1 _ (by simp)
     · exact h2 x (by simp) u hu
     · exact ih (fun v hv=>h1 v (by simp[hv])) (fun y hy=>h2 y (by simp[hy])) u hu
def Pvs (w:World) (vs:List Value) (xs:List Item):Prop:=vs.length=xs.length∧ ∀ (i:Nat) (h:i<xs.length) (hv:i<vs.length),Pv w vs[i] xs[i].1
theorem Pvs.below {w w':World} {vs:List Value} {xs:List Item} (h:Pvs w vs xs) (hb:Below w.heap.size w w'):Pvs w' vs xs:=⟨h.1,fun i hi hv=>(h.2 i hi hv).below hb⟩
theorem Pvs.append {w:World} {vs us:List Value} {xs ys:List Item} (h:Pvs w vs xs) (k:Pvs w us ys):Pvs w (vs++us) (xs++ys):=by
 refine⟨by rw[Yak,Yak,h.1,k.1],fun i hi hv=> ?_⟩
 by_cases hlt:i<xs.length
 · rw[Ydv hlt,Ydv (by rw[h.1];exact hlt)]
   exact h.2 i hlt _
 · have hlv:vs.length=xs.length:=h.1;have hi2:i-xs.length<ys.length:=by rw[Yak]at hi;omega
   have e1:(xs++ys)[i]=ys[i-xs.length]:=Yec (by omega)
   have e2:(vs++us)[i]=us[i-vs.length]'(by rw[k.1];omega):=Yec (by omega)
   rw[e1,e2];have:=k.2 (i-xs.length) hi2 (by rw[k.1];exact hi2)
   simpa only[h.1]using this
theorem Pvs.one {w:World} {vs:List Value} {xs:List Item} (h:Pvs w vs xs): ∀ v∈vs,v.oneCell'=true:=by
 intro v hv;obtain⟨i,hi,rfl⟩:=Ybo hv;exact(h.2 i (by rw[←h.1];exact hi) hi).one
theorem Pvs.nil {w:World}:Pvs w [] []:=⟨rfl,fun i h=>absurd h (by simp)⟩
theorem Pvs.single {w:World} {v:Value} {x:Item} (h:Pv w v x.1):Pvs w [v] [x]:=by
 refine⟨rfl,fun i hi _=> ?_⟩
 obtain rfl:i=0:=by simpa using hi
 exact h
def Pd (w:World) (k:Nat) (A:Option Addr) (xs:List Item):Prop:=(∀ x∈xs,x.2.length+1=k)∧ ∃ vs,Pvs w vs xs∧Rd w k A xs.length (Zdl vs xs)
theorem Pd.below {w w':World} {k:Nat} {A:Option Addr} {xs:List Item} (h:Pd w k A xs) (hb:Below w.heap.size w w'):Pd w' k A xs:=by
 obtain⟨h1,vs,h2,h3⟩:=h;exact⟨h1,vs,h2.below hb,h3.below hb⟩
def Pl (w:World) (base:Nat) (T:TypeId) (k:Nat) (v:Value) (xs:List Item):Prop:=
 (∀ x∈xs,x.2.length+1=k)∧(xs= []→v= .slice none 0 0)∧ ∃ vs,Pvs w vs xs∧w.ownsRow base T k v xs.length (Zdl vs xs)
theorem Pl.nil (w:World) (base:Nat) (T:TypeId) (k:Nat):Pl w base T k (.slice none 0 0) []:=⟨by simp,fun _=>rfl,[],Pvs.nil,World.ownsRow_nil _ _ _ _⟩
theorem Pl.below {w w':World} {base:Nat} {T:TypeId} {k:Nat} {v:Value} {xs:List Item} (h:Pl w base T k v xs) (hb:Below w.heap.size w w'):Pl w' base T k v xs:=by
 obtain⟨h1,h2,vs,h3,h4⟩:=h;exact⟨h1,h2,vs,h3.below hb,Zah h4 hb⟩
theorem Pl.base {w:World} {base b2:Nat} {T:TypeId} {k:Nat} {v:Value} {xs:List Item} (h:Pl w base T k v xs) (hb:b2≤base):Pl w b2 T k v xs:=by
 obtain⟨h1,h2,vs,h3,h4⟩:=h;exact⟨h1,h2,vs,h3,Zlc h4 hb⟩
theorem Pl.read {w:World} {base:Nat} {T:TypeId} {k:Nat} {v:Value} {xs:List Item} (h:Pl w base T k v xs): ∃ A c,v= .slice A xs.length c∧xs.length≤c∧c≤maxLen∧Pd w k A xs∧(A=none→c=0):=by
 obtain⟨h1,h2,vs,h3,h4⟩:=h;obtain⟨A,c,e,a,b,r,n,-⟩:=Zcv h4;exact⟨A,c,e,a,b,⟨h1,vs,h3,r⟩,n⟩
theorem Zhx {w:World} {base:Nat} {T:TypeId} {k:Nat} {v:Value} {xs:List Item} (h:Pl w base T k v xs) (_hk:0<k) {u:Value} {P:List ByteArray} (hp:Pv w u P): ∀ b c,u= .slice (some ⟨b,0,none⟩) P.length c→some b≠v.ownBlock:=by
 intro b c hu e;obtain⟨h1,h2,vs,h3,h4⟩:=h;obtain⟨b',c',s,hu',hb,hs⟩:=hp.head;rw[hu]at hu';injection hu' with hA
 injection hA with hA
 injection hA with hA
 subst hA;rcases xs with _|⟨x,xs⟩
 · rw[h2 rfl]at e;cases e
 · cases vs with
   |nil=>exact absurd h3.1 (by simp)
   | cons v0 vs=>
     have hx:(Zdl (v0::vs) (x::xs))[0]?=some v0:=by simp[Zdl]
     have hc:=h4.cells e.symm 0 v0 hx;rw[Zag,hs]at hc;obtain⟨b2,c2,h5,-⟩:=h3.2 0 (by simp) (by simp)
     simp only[Yej]at h5;rw[h5]at hc;cases hc
theorem Zmo {P:Program} {ops:Array Oper} {rest:List Oper} {o:Oper} {a:Act} {Q:Exit→Act→World→Prop} (hgd:o.guard=none) (s x:Operand) (t:TypeId)
 (ho:o.op= .call {callee:= .builtin .append,args:= #[s,x],argTypes:= #[t,t]})
 (w0 wr:World) (e:TypeId) (i:TypeInfo) (z:Value) (k bytes:Nat) (ht:P.underlying t=some (.slice e)) (hi:P.info? e=some i) (hz:i.zero=some z)
 (hsize:i.size=k) (hby:i.bytes=bytes) (hzs:z.cells.size=k) (hsz:0<k) (hb64:bytes≤64)
 {v:Value} {xs:List Item} (hown:Pl wr w0.heap.size e k v xs) (hb:Below w0.heap.size w0 wr) (hs:a.eval s=v)
 (u:Value) (y:Item) (hy:y.2.length+1=k) (hy1: ∀ c∈y.2,c.oneCell'=true) (hu:Pv wr u y.1) (hx:a.eval x= .slice (some ⟨wr.heap.size,0,none⟩) 1 1) (hN:xs.length+1≤1000000000)
 (h: ∀ v' w',Pl w' w0.heap.size e k v' (xs++ [y])→Below w0.heap.size w0 w'→wpList P ops Q rest (a.put o.dst v') w'):
 wpList P ops Q (o::rest) a (wr.alloc (.cells (u::y.2).toArray e)):=by
 have hbytes:(xs.length+1)*bytes≤140737488355328:=Yas (Yde hN hb64) (by decide)
 have hba:Below wr.heap.size wr (wr.alloc (.cells (u::y.2).toArray e)):=(Yae _ _).alloc (Yag _) _;have hP:=hown.below hba;obtain⟨-,-,vs,h3,h4⟩:=hP;refine wpList_append_own _ hgd s x t ho w0.heap.size e i z k bytes ht hi hz hsize hby hzs hsz v xs.length (Zdl vs xs) hs h4 ⟨wr.heap.size,0,none⟩ 1 1 (u::y.2) hx (by simp;omega) ?_ ?_ (by unfold maxLen;omega) hbytes (Yas hb.size (by simp)) ?_
 · intro j c hc;rw[Zag,Ybj,World.cell?_alloc_at _ _ _ _ rfl];simpa using hc
 · intro c hc;rcases Yax.1 hc with rfl|hc
   · exact hu.one
   · exact hy1 c hc
 · intro v' w' hown' hg hnil;refine h v' w' ?_ ((hb.alloc hb.size _).grown hg (Yas hb.size (by simp)) fun q hq=>(h4.lt q hq).1)
   have hP:=hown.below hba;refine⟨fun c hc=> ?_,fun e=>by simp at e,vs++ [u], ?_, ?_⟩
   · rcases Ybl.1 hc with hc|hc
     · exact hown.1 c hc
     · rw[Ybt.1 hc];exact hy
   · have e1:Pvs w' vs xs:=⟨h3.1,fun i hi hv=>(h3.2 i hi hv).kept hg (Zhx hP hsz (h3.2 i hi hv))⟩
     exact e1.append (Pvs.single ((hu.below hba).kept hg (Zhx hP hsz (hu.below hba))))
   · rw[Zfw h3.1,Ztu,Yak];exact hown'
theorem Zaiz {P:Program} {ops:Array Oper} {rest:List Oper} {o:Oper} {a:Act} {Q:Exit→Act→World→Prop} (hgd:o.guard=none) (s x:Operand) (t:TypeId)
 (ho:o.op= .call {callee:= .builtin .append,args:= #[s,x],argTypes:= #[t,t]})
 (w0 wr:World) (e:TypeId) (i:TypeInfo) (z:Value) (k bytes:Nat) (ht:P.underlying t=some (.slice e)) (hi:P.info? e=some i) (hz:i.zero=some z)
 (hsize:i.size=k) (hby:i.bytes=bytes) (hzs:z.cells.size=k) (hsz:0<k) (hb64:bytes≤64)
 {v:Value} {xs:List Item} (hown:Pl wr w0.heap.size e k v xs) (hb:Below w0.heap.size w0 wr) (hs:a.eval s=v)
 (A:Option Addr) (c:Nat) (ys:List Item) (hx:a.eval x= .slice A ys.length c) (hR:Pd wr k A ys) (hnil:A=none→c=0) (h1: ∀ y∈ys,∀ u∈y.2,u.oneCell'=true)
 (hN:xs.length+ys.length≤1000000000)
 (h: ∀ v' w',Pl w' w0.heap.size e k v' (xs++ys)→Below w0.heap.size w0 w'→wpList P ops Q rest (a.put o.dst v') w'):
 wpList P ops Q (o::rest) a wr:=by
 have hbytes:(xs.length+ys.length)*bytes≤140737488355328:=Yas (Yde hN hb64) (by decide)
 obtain⟨hk,us,hu,hr⟩:=hR;have hown0:=hown;obtain⟨hx1,hx2,vs,h3,h4⟩:=hown;rcases A with _|ad
 · have hm:ys.length=0:=by
    rcases Ybn ys.length with h0|h0
    · exact h0
    · obtain⟨ad,h,-⟩:=hr.2 h0;cases h
   have hy0:ys= []:=Yar hm;subst hy0;obtain rfl:=hnil rfl;exact wpList_append_own_none hgd s x t ho w0.heap.size e i k ht hi v xs.length (Zdl vs xs) hs h4 hx (h v wr (by simpa using hown0) hb)
 · refine wpList_append_own _ hgd s x t ho w0.heap.size e i z k bytes ht hi hz hsize hby hzs hsz v xs.length (Zdl vs xs) hs h4 ad ys.length c (Zdl us ys) hx hr.1 ?_ (Zaaz hu.one h1) (by unfold maxLen;omega) hbytes hb.size ?_
   · intro j u hu;obtain⟨ad',e',-,hc⟩:=hr.cell hu;injection e' with e'
     subst e';exact hc
   · intro v' w' hown' hg hn;refine h v' w' ?_ (hb.grown hg hb.size fun q hq=>(h4.lt q hq).1)
     refine⟨fun x hx=> ?_,fun e=> ?_,vs++us, ?_, ?_⟩
     · rcases Ybl.1 hx with hx|hx
       · exact hx1 x hx
       · exact hk x hx
     · obtain⟨rfl,rfl⟩:=Yel.1 e;exact hn.2 ⟨hx2 rfl,rfl⟩
     · have e1:Pvs w' vs xs:=⟨h3.1,fun i hi hv=>(h3.2 i hi hv).kept hg (Zhx hown0 hsz (h3.2 i hi hv))⟩
       have e2:Pvs w' us ys:=⟨hu.1,fun i hi hv=>(hu.2 i hi hv).kept hg (Zhx hown0 hsz (hu.2 i hi hv))⟩
       exact e1.append e2
     · rw[Zfw h3.1,Yak];exact hown'
theorem Pd.at {w:World} {k:Nat} {A:Option Addr} {xs:List Item} (h:Pd w k A xs) {i:Nat} (hi:i<xs.length):
 ∃ B O v,A=some ⟨B,O,none⟩∧B<w.heap.size∧(⟨B,O,none⟩:Addr).add (i*k)=⟨B,O+i*k,none⟩∧Pv w v xs[i].1∧w.cell? ⟨B,O+i*k,none⟩=some v∧ ∀ j u,xs[i].2[j]?=some u→w.cell? ⟨B,O+i*k+(j+1),none⟩=some u:=by
 obtain⟨hk,vs,hv,hr⟩:=h;obtain⟨ad,e,hb,hx⟩:=hr.2 (by omega)
 have hkk:=hk xs[i] (Yau hi);have hiv:i<vs.length:=by rw[hv.1];exact hi
 have g:=Zoi hv.1 hk i hi hiv;have h0:=hx (i*k+0) vs[i] (by rw[g 0 (by omega)];rfl)
 have hs:ad.spot=none:=by
  have:=hx 0 _ (by
   have:=Zoi hv.1 hk 0 (by omega) (by omega) 0 (by have:=hk xs[0] (Yau _);omega)
   rw[Nat.zero_mul,Ybj]at this;rw[this];rfl)
  exact World.cell?_spot this
 obtain⟨B,O,sp⟩:=ad;obtain rfl:sp=none:=hs;rw[Zag]at h0;refine⟨B,O,vs[i],e,hb,Zag _ _ _,hv.2 i hi hiv,h0,fun j u hu=> ?_⟩
 have hj:j<xs[i].2.length:=(Yba.1 hu).1;have:=hx (i*k+(j+1)) u (by rw[g (j+1) (by omega)];exact hu)
 rw[Zag,←Ydh]at this;exact this
end Go.Proofs.Zq
namespace Sch
open Go Go.Lib Adr Mtr Tre
def bw (l:List UInt8):ByteArray:=⟨l.toArray⟩
def Zcl (s:List UInt8):Rule:=⟨(parts 32 (trimRightS s [43,33])).map bw, !(decide (trimRightS s [43,33]=s)),hasSuffix s [33]⟩
def Zlu:List UInt8:= [104,111,115,116,115,124,104,111,115,116,115,32,36,110,97,109,101,124,104,111,115,116,115,32,36,110,97,109,101,32,105,112,33,124,104,111,115,116,115,32,36,110,97,109,101,32,105,112,32,36,105,112,124,104,111,115,116,115,32,36,110,97,109,101,32,109,97,99,43,124,104,111,115,116,115,32,36,110,97,109,101,32,109,97,99,32,36,109,97,99,124,104,111,115,116,115,32,36,110,97,109,101,32,118,110,105,115,124,104,111,115,116,115,32,36,110,97,109,101,32,118,110,105,115,32,36,118,110,105,124,118,110,105,115,124,118,110,105,115,32,36,118,110,105,124,118,110,105,115,32,36,118,110,105,32,115,117,98,110,101,116,33,124,118,110,105,115,32,36,118,110,105,32,115,117,98,110,101,116,32,36,112,114,101,102,105,120,124,98,105,110,100,105,110,103,115,124,98,105,110,100,105,110,103,115,32,36,105,112,124,98,105,110,100,105,110,103,115,32,36,105,112,32,104,111,115,116,33,124,98,105,110,100,105,110,103,115,32,36,105,112,32,104,111,115,116,32,36,110,97,109,101,124,98,105,110,100,105,110,103,115,32,36,105,112,32,109,97,99,33,124,98,105,110,100,105,110,103,115,32,36,105,112,32,109,97,99,32,36,109,97,99,124,98,105,110,100,105,110,103,115,32,36,105,112,32,118,110,105,33,124,98,105,110,100,105,110,103,115,32,36,105,112,32,118,110,105,32,36,118,110,105,124,114,111,117,116,101,115,124,114,111,117,116,101,115,32,36,112,114,101,102,105,120,124,114,111,117,116,101,115,32,36,112,114,101,102,105,120,32,118,105,97,33,124,114,111,117,116,101,115,32,36,112,114,101,102,105,120,32,118,105,97,32,36,110,97,109,101,124,114,111,117,116,101,115,32,36,112,114,101,102,105,120,32,109,101,116,114,105,99,43,124,114,111,117,116,101,115,32,36,112,114,101,102,105,120,32,109,101,116,114,105,99,32,36,109,101,116,114,105,99,124,112,111,108,105,99,121,124,112,111,108,105,99,121,32,36,110,117,109,124,112,111,108,105,99,121,32,36,110,117,109,32,97,99,116,105,111,110,33,124,112,111,108,105,99,121,32,36,110,117,109,32,97,99,116,105,111,110,32,36,97,99,116,105,111,110,124,112,111,108,105,99,121,32,36,110,117,109,32,102,114,111,109,43,124,112,111,108,105,99,121,32,36,110,117,109,32,102,114,111,109,32,36,112,114,101,102,105,120,124,112,111,108,105,99,121,32,36,110,117,109,32,116,111,43,124,112,111,108,105,99,121,32,36,110,117,109,32,116,111,32,36,112,114,101,102,105,120]
theorem Zahv:(parts 124 Zlu).map Zcl=Zam:=by kernel_rfl
theorem Zanl:(parts 124 Zlu).length=34:=by decide+kernel
theorem Zahn: ∀ s∈parts 124 Zlu,s.length≤40:=by decide+kernel
def Zte (r:Rule):List ByteArray×List Value:=(r.path,[.bool r.one, .bool r.needed])
def Znl:List (List ByteArray×List Value):=Zam.map Zte
theorem Zuh:Znl.length=34:=by decide+kernel
end Sch
namespace Go.Proofs.Zq
open Tryz
open Go Go.RowKit Go.Sort Sch Adr Mtr Tre
theorem Zayj (L:List (List UInt8)):sv (L.map bw)=strs L:=by unfold sv strs bw;rw[Yeo];rfl
theorem Zasw (s:ByteArray) (c:UInt8) (w:World) (hE:Env w) (hs:s.size≤100000000):
 Calls prog 96 #[.string s, .string ⟨#[c]⟩] w fun e w'=>(∃ v,e= .returned v∧Pv w' v ((Adr.parts c s.data.toList).map bw))∧Below w.heap.size w w':=by
 obtain⟨m,hm⟩:=hE.mx;refine(Tryz.strings_Split s ⟨#[c]⟩ m w (by omega) hm (Yag 1)).mono fun e w' ⟨he,hw⟩=> ?_
 have hl:=Adr.parts_len c s.data.toList;rw[Zat]at hl;rw[Zacj,Adr.splitB_parts]at hw;have hc:=Adr.countB_parts c s;have hle:((Adr.parts c s.data.toList).map bw).length=(Adr.parts c s.data.toList).length:=Yaz _;refine⟨⟨_,he,w.heap.size,(Adr.parts c s.data.toList).length,by rw[hle,hc],by rw[hle];exact Yag _,by unfold maxLen;omega,by rw[hle];omega, ?_⟩,by rw[hw];exact(Yae _ _).alloc (Yag _) _⟩
 rw[hle,Zayj];refine⟨by rw[Zsr];omega,fun _=>⟨_,rfl,by rw[hw];simp,fun j u hu=> ?_⟩⟩
 rw[hw,Zag,Ybj,World.cell?_alloc_at _ _ _ _ rfl];simpa using hu
theorem Zaom (a b:Bool): ∀ c∈ [Value.bool a,Value.bool b],c.oneCell'=true:=by
 intro c hc;simp only[Yax,Yby,or_false]at hc;rcases hc with rfl|rfl<;>rfl
theorem Zala:(prog.info? 106).map (fun i=>(i.zero,i.size,i.bytes))=some (some (.agg #[.slice none 0 0, .bool false, .bool false]),3,32):=by kernel_rfl
def Zapa (w:World) (e:Ending) (w':World):Prop:=(∃ v,e= .returned v∧Pl w' w.heap.size 106 3 v Znl)∧Below w.heap.size w w'
theorem Zank (w:World) (hE:Env w):Calls prog 59 #[] w (Zapa w):=by
 obtain⟨i0,hi,hz0,hz1,hz2⟩:=info_parts Zala
 have HS:Hid (Calls prog 96 #[.string ⟨Zlu.toArray⟩, .string ⟨#[124]⟩] w (Zun w 124 Zlu)):=by
  have:=Zzj ⟨Zlu.toArray⟩ 124 w hE (by decide+kernel)
  rw[Zch]at this;exact this
 have HE:=Zhd hE;have hlen:=Zanl;have HSZ:=Zhd Zahn;have HRF:=Zhd Zahv;clear hE;go_enter func59,ntmps59;go_wp2_with fail;refine HS.out.mono ?_;clear HS;unfold Zun;generalize Adr.parts 124 Zlu=PS at *;rintro e w1 ⟨A,cap,rfl,hc1,hc2,hRd,hb1⟩
 have HR:Hid (Rd w1 1 A (PS.map bw).length (sv (PS.map bw))):=by
  show Rd _ _ _ _ _;rw[Zayj,Yaz];exact hRd
 unfold maxLen at hc2;clear hRd;have HB1:=Zhd hb1;clear hb1;go_wp2;go_loopw [1,7] (fun v vi wr=> ∃ k:Nat,k≤34∧vi= .int .i64 k∧Hid (Pl wr w1.heap.size 106 3 v ((PS.take k).map fun s=>Zte (Zcl s)))∧Hid (Below w1.heap.size w1 wr)) (fun _ vi _=>34-(intOf vi).toNat)
 case atStart=>exact⟨0,Yao _,rfl,Pl.nil _ _ _ _,Yae _ _⟩
 case round=>
  obtain⟨k,hk,rfl,HP,HB⟩:=hrel;by_cases hlt:k<34
  · have hkl:k<PS.length:=by omega
    have hkl2:k<(PS.map bw).length:=by rw[Yaz];exact hkl
    obtain⟨B,O,rfl,hab,hadd,x0⟩:=(HR.out.below HB.out).strAt hkl2;have hgx:(PS.map bw)[k]=bw PS[k]:=Ydj _;rw[hgx]at x0;have hps:=HSZ.out _ (Yau hkl)
    have hst:Hid ((PS.take (k+1)).map (fun s=>Zte (Zcl s))=(PS.take k).map (fun s=>Zte (Zcl s))++ [Zte (Zcl PS[k])]):=by
     show _=_;rw[Yaw hkl,Ybu];rfl
    generalize PS[k]=s at *;have hss:(bw s).size≤40:=by unfold bw;rw[Zeu];exact hps
    have HT: ∀ W,Hid (Calls prog 97 #[.string (bw s), .string ⟨#[43,33]⟩] W fun e w'=>e= .returned (.string (bw (Lib.trimRightS s [43,33])))∧Below W.heap.size W w'):=fun W=>by
     have:=Zww (bw s) ⟨#[43,33]⟩ W (by omega) (by decide) (by decide)
     unfold bw at this;rw[Zch]at this;exact this
    have htl:(Lib.trimRightS s [43,33]).length≤100000000:=by
     have:(Lib.trimRightS s [43,33]).length≤s.length:=by
      unfold Lib.trimRightS;rw[Ydo];exact Yas (List.dropWhile_suffix _).length_le (by simp)
     omega
    have HX: ∀ W,Env W→Hid (Calls prog 96 #[.string (bw (Lib.trimRightS s [43,33])), .string ⟨#[32]⟩] W fun e w'=>(∃ v,e= .returned v∧Pv w' v (Zcl s).path)∧Below W.heap.size W w'):=fun W hW=>by
     have:=Zasw (bw (Lib.trimRightS s [43,33])) 32 W hW (by unfold bw;rw[Zeu];exact htl)
     rw[show(bw (Lib.trimRightS s [43,33])).data.toList=Lib.trimRightS s [43,33]from Zch _]at this;exact this
    have HF: ∀ W,Hid (Calls prog 98 #[.string (bw s), .string ⟨#[33]⟩] W fun e w'=>e= .returned (.bool (Zcl s).needed)∧w'=W):=fun W=>by
     have:=Tryz.strings_HasSuffix (bw s) ⟨#[33]⟩ W (by omega)
     rw[show(bw s).data.toList=s from Zch _]at this;exact this
    have HO:Hid ((!((bw (Lib.trimRightS s [43,33])).toList==(bw s).toList))=(Zcl s).one):=by
     show _=_;unfold bw Zcl;rw[Lib.toList_data,Lib.toList_data,Zch,Zch];show _= !(decide _);rw[Ycl];simp
    have HRI:Hid (Zte (Zcl s)=((Zcl s).path,[.bool (Zcl s).one, .bool (Zcl s).needed])):=rfl;generalize Zcl s=r at *;generalize bw (Lib.trimRightS s [43,33])=p at *;generalize bw s=q at *;clear hgx hkl2 hps;go_wp2_with fail;refine(HT _).out.mono ?_;rintro e w2 ⟨rfl,hb2⟩;have hb3:=Zaa HB.out hb2;have HP2:=Zhd (HP.out.below hb2);clear HP HB hb2 HT;go_wp2_with fail;refine(HX _ (HE.out.below (Zaa HB1.out hb3))).out.mono ?_;rintro e w3 ⟨⟨v3,rfl,hv3⟩,hb4⟩;have hb5:=Zaa hb3 hb4;have HP3:=Zhd (HP2.out.below hb4);obtain⟨b3,c3,rfl,-,-,-,-,hv3,-⟩:=hv3.slice;have HV:=Zhd hv3;have HB5:=Zhd hb5;clear HP2 hb3 hb4 HX hv3 hb5;go_wp2_with fail;refine(HF _).out.mono ?_;rintro e w4 ⟨rfl,rfl⟩;rw[HO.out];clear HF HO;have hk2:((PS.take k).map (fun s=>Zte (Zcl s))).length≤34:=by rw[Yaz,Yaf];omega
    generalize (PS.take k).map (fun s=>Zte (Zcl s))=its at *
    go_wp2_with (at_builtin;refine Zmo rfl _ _ 103 rfl w1 w4 106 i0 _ 3 32 underlying103 hi hz0 hz1 hz2 rfl (by decide) (by decide) HP3.out HB5.out rfl (.slice (some ⟨b3,0,none⟩) r.path.length c3) (r.path,[.bool r.one, .bool r.needed]) rfl (Zaom _ _) HV.out rfl (by omega) ?_;intro v' w' hown' hb')
    go_roundw
    case rel=>exact⟨k+1,by omega,by go_num,by show Pl _ _ _ _ _ _;rw[hst.out,HRI.out];exact hown',hb'⟩
    case measure=>simp[intOf];omega
  · obtain rfl:k=34:=by omega
    have HF:Hid ((PS.take 34).map (fun s=>Zte (Zcl s))=Znl):=by
     show _=_;rw[←hlen,Ybz];unfold Znl;rw[←HRF.out,Yeo];rfl
    have HPF:=HP.out;rw[HF.out]at HPF;have HPG:=Zhd (HPF.base HB1.out.size);have HBG:=Zhd (Zaa HB1.out HB.out);clear HP HB HPF HF;go_wp2;go_ret;exact⟨⟨_,rfl,HPG.out⟩,HBG.out⟩
end Go.Proofs.Zq
