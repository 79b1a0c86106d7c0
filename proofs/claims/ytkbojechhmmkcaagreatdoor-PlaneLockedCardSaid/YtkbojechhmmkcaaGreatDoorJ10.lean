import Derived.Laws.FloatArith
import Derived.Test.YtkbojechhmmkcaaGreatDoorJ09
set_option linter.unusedVariables false
set_option linter.unusedSimpArgs false
set_option maxHeartbeats 4000000
set_option maxRecDepth 100000
namespace Mtr
open Go Go.Lib Adr
theorem Zaxw {l:List UInt8} {v:Int} (h:atoiAll l= .ok v):(Zjn l=true∧l.length≤6∧0≤v∧v=(val l:Int)∧itoa v=l)∨(Zjn l=false∧(6<l.length∨v<0∨itoa v≠l)):=by
 unfold Zjn;rcases num_ok l v h with⟨h1,h2,h3,h4⟩|⟨h1,h2⟩
 · have hc:Zjr l=true:=by
    cases hc:Zjr l with
    |true=>rfl
    |false=>rw[Zla hc]at h1;omega
   rw[Zkc hc]at h1;by_cases h6:l.length≤6
   · left;rw[hc,Yal h6];exact⟨rfl,h6,h3,h1.symm,h4⟩
   · right;rw[Yah h6,Bool.and_false];exact⟨rfl, .inl (by omega)⟩
 · right
   have hc:Zjr l=false:=by
    cases hc:Zjr l with
    |false=>rfl
    |true=>rw[Zkc hc]at h1;omega
   rw[hc];refine⟨rfl, ?_⟩;rcases h2 with h2|h2
   · exact .inl (by omega)
   · exact .inr h2
theorem Zavn {l:List UInt8} (h: ∀ v,atoiAll l≠ .ok v):Zjn l=false:=by
 unfold Zjn;cases hc:Zjr l with
 |false=>rfl
 |true=>exact absurd (Zoc l hc) (h _)
theorem Zaqk {b:List UInt8} (h: ∀ v,atoiAll (b++repeatL [48] (3-b.length))≠ .ok v):Zfe b=false:=by
 rw[Ycx];intro e;unfold Zfe at e;simp only[Yat,Yap]at e;exact h _ (Zyb e.1.1.1 e.1.1.2 e.1.2)
theorem Zavg {b:List UInt8} {k:Int} (h:atoiAll (b++repeatL [48] (3-b.length))= .ok k):
 (Zfe b=true∧1≤b.length∧b.length≤3∧trimS b Zgg= []∧hasSuffix b [48]=false∧k=(frac b:Int))∨(Zfe b=false∧(b.length<1∨3<b.length∨trimS b Zgg≠ []∨hasSuffix b [48]=true)):=by
 by_cases h1:1≤b.length
 · by_cases h3:b.length≤3
   · by_cases hd:b.all Zdf=true
     · cases hs:hasSuffix b [48]with
       | false=>
         left
         rw[Zyb h1 h3 hd]at h;injection h with h
         refine⟨?_,h1,h3,(Zsv b).2 hd,rfl,h.symm⟩;unfold Zfe;rw[Yal h1,Yal h3,hd,hs];rfl
       |true=>right;refine⟨?_, .inr (.inr (.inr rfl))⟩;unfold Zfe;rw[hs];simp
     · right;refine⟨?_, .inr (.inr (.inl fun e=>hd ((Zsv b).1 e)))⟩;unfold Zfe;rw[show b.all Zdf=false by simpa using hd];simp
   · right;refine⟨?_, .inr (.inl (by omega))⟩;unfold Zfe;rw[Yah h3];simp
 · right;refine⟨?_, .inl (by omega)⟩;unfold Zfe;rw[Yah h1];rfl
theorem Zaor {a:List UInt8} (h:Zjn a=true):val a<1000000:=by
 have hd:=Zok h;unfold Zjn at h;simp only[Yat,Yap]at h;have h1:=Zafj a hd;have h2:10^a.length≤10^6:=Yeu (by decide) h.2
 omega
theorem Zagn {b:List UInt8} (h:Zfe b=true):frac b<1000:=by
 unfold Zfe at h;simp only[Yat,Yap]at h;have h1:=Zafj b h.1.2;unfold frac;have:b.length=1∨b.length=2∨b.length=3:=by omega
 rcases this with e|e|e<;>rw[e]at h1⊢ <;>simp at * <;>omega
end Mtr
namespace Go.Proofs.Zq
open Tryz
open Go Go.RowKit Mtr
def Zats (o:Option Nat):Value:= .tuple #[.int .i64 (match o with|some n=>(n:Int)|none=>0), .bool o.isSome]
theorem Zaux (s:ByteArray) (w:World) (hE:Env w) (hs:s.size≤100000000):
 ∃ (a b:List UInt8) (pt:Bool),(Calls prog 212 #[.string s, .string ⟨#[46]⟩] w fun e w'=>e= .returned (.tuple #[.string ⟨a.toArray⟩, .string ⟨b.toArray⟩, .bool pt])∧Below w.heap.size w w')∧a.length≤100000000∧b.length≤100000000∧
   dec s.data.toList=if pt then(if Zjn a&&Zfe b then some (1000*Adr.val a+frac b)else none)else(if Zjn a then some (1000*Adr.val a)else none):=by
 have hz:=Zat s;by_cases h:(46:UInt8)∈s.data.toList
 · obtain⟨a,b,e,ha⟩:=List.eq_append_cons_of_mem h;have hl:=congrArg List.length e;rw[Yak,Ybf]at hl;exact⟨a,b,true,Zqv s 46 a b w hE hs e ha,by omega,by omega,by rw[e,Zajv a b ha];rfl⟩
 · refine⟨s.data.toList,[],false, ?_,by omega,by simp,by rw[Zajy _ h];rfl⟩
   rw[mk_data];exact Zatq s 46 w hE hs h
theorem Zkw (l:List UInt8):(⟨l.toArray⟩:ByteArray).toList.isEmpty=l.isEmpty:=by rw[Lib.toList_data,Zch]
theorem Zaam (s:ByteArray) (w:World) (hE:Env w) (hs:s.size≤100000000):
 Calls prog 236 #[.string s] w fun e w'=>e= .returned (Zats (dec s.data.toList))∧Below w.heap.size w w':=by
 obtain⟨a,b,pt,hC,hal,hbl,hD⟩:=Zaux s w hE hs;have HC:=Zhd hC;have HE:=Zhd hE;clear hC hE;generalize dec s.data.toList=D at *;by_cases hok: ∃ v,Lib.atoiAll a= .ok v
 · obtain ⟨v,hv⟩:=hok;have HA:=Zhd (show ∀ W,Env W→_ from fun W _=>Zhe ⟨a.toArray⟩ W v (by rw[Zeu];omega) (by rw[Zch];exact hv))
   have hvb:=Lib.atoiAll_bounds hv;have HI:=Zhd (show ∀ W,Env W→_ from fun W hW=>Zvw v W hW hvb.1 hvb.2)
   rcases Zaxw hv with⟨hi,h6,hv0,hve,hit⟩|⟨hi,hbad⟩
   · rw [hi] at hD;rw[hit]at HI;have hvs:=Zaor hi;cases pt with
     | false=>
       have HD:Hid (D=some (1000*Adr.val a)):=hD;have hz6: ¬ (6:Int)<(a.length:Int):=by omega
       have HV:Hid (v=(Adr.val a:Int)):=hve;have hv1:v<1000000:=by omega
       clear hD hi hit hv hve hvb hvs;go_enter func236,ntmps236;go_wp2_with fail;refine HC.out.mono ?_;rintro e w1 ⟨rfl,hb1⟩;go_wp2_with fail;refine(HA.out _ (HE.out.below hb1)).mono ?_;rintro e w2 ⟨rfl,hb2⟩;have hb3:=Zaa hb1 hb2;clear hb1 hb2;go_wp2_with fail;refine(HI.out _ (HE.out.below hb3)).mono ?_;rintro e w3 ⟨rfl,hb4⟩;have hb5:=Zaa hb3 hb4;clear hb3 hb4 HA HI HC;go_wp2;go_ret2;exact⟨by rw[HD.out,HV.out];rfl,hb5⟩
     | true=>
       have hz6: ¬ (6:Int)<(a.length:Int):=by omega
       have HV:Hid (v=(Adr.val a:Int)):=hve;have hv1:v<1000000:=by omega
       have hD1:D=if Zfe b then some (1000*Adr.val a+frac b)else none:=by rw[hD];rfl
       obtain⟨m,hm⟩: ∃ m,3-b.length=m:=⟨_,rfl⟩;have HRp:=fun W=>Tryz.strings_Repeat ⟨#[48]⟩ m W (by omega) (by show 1*m≤_;omega)
       have hmx:max (3-(b.length:Int)) 0=(m:Int):=by omega
       have hmi:(3-(b.length:Int)).toNat=m:=by omega
       have hcat:(⟨b.toArray⟩:ByteArray)++(⟨(Lib.repeatL (⟨#[48]⟩:ByteArray).data.toList m).toArray⟩:ByteArray)=⟨(b++Lib.repeatL [48] m).toArray⟩:=Zaid b (Lib.repeatL [48] m);have hrl:=(Zug m).2;by_cases hok2: ∃ k,Lib.atoiAll (b++Lib.repeatL [48] m)= .ok k
       · obtain ⟨k,hk⟩:=hok2;have HA2:=Zhd (show ∀ W,Env W→_ from fun W _=>Zhe ⟨(b++Lib.repeatL [48] m).toArray⟩ W k (by rw[Zeu,Yak,hrl];omega) (by rw[Zch];exact hk))
         have HT:=Zhd (fun W=>Zaff ⟨b.toArray⟩ ⟨#[48,49,50,51,52,53,54,55,56,57]⟩ W (by rw[Zeu];omega) (by decide) (by decide))
         have HS:=Zhd (fun W=>Tryz.strings_HasSuffix ⟨b.toArray⟩ ⟨#[48]⟩ W (by rw[Zeu];omega))
         rw[Zch]at HT HS;rw[←hm]at hk;have hfr:=Zavg hk;rcases hfr with⟨hf,f1,f3,ft,fs,fk⟩|⟨hf,hbad⟩
         · have HD:Hid (D=some (1000*Adr.val a+frac b)):=by show _=_;rw[hD1,hf];rfl
           have hfs:=Zagn hf;have HK:Hid (k=(frac b:Int)):=fk;have hk0:0≤k:=by omega
           have hk1:k<1000:=by omega
           have ft2:(⟨(Lib.trimS b Zgg).toArray⟩:ByteArray).toList.isEmpty=true:=by rw[Zkw,ft];rfl
           have HT2:Hid (∀ W,Calls prog 228 #[.string ⟨b.toArray⟩, .string ⟨#[48,49,50,51,52,53,54,55,56,57]⟩] W fun e w'=>e= .returned (.string ⟨(Lib.trimS b Zgg).toArray⟩)∧Below W.heap.size W w'):=HT.out
           have HS2:Hid (∀ W,Calls prog 98 #[.string ⟨b.toArray⟩, .string ⟨#[48]⟩] W fun e w'=>e= .returned (.bool false)∧w'=W):=fun W=>by rw[←fs];exact HS.out W
           have z1: ¬ (b.length:Int)<1:=by omega
           have z3: ¬ (3:Int)<(b.length:Int):=by omega
           clear hD hD1 hi hit hv hve hvb hvs hk hf ft fs fk hfs HT HS hm;generalize (⟨(Lib.trimS b Zgg).toArray⟩:ByteArray)=tr at *;go_enter func236,ntmps236;go_wp2_with fail;refine HC.out.mono ?_;rintro e w1 ⟨rfl,hb1⟩;go_wp2_with fail;refine(HA.out _ (HE.out.below hb1)).mono ?_;rintro e w2 ⟨rfl,hb2⟩;have hb3:=Zaa hb1 hb2;clear hb1 hb2;go_wp2_with fail;refine(HI.out _ (HE.out.below hb3)).mono ?_;rintro e w3 ⟨rfl,hb4⟩;have hb5:=Zaa hb3 hb4;clear hb3 hb4 HA HI HC;go_wp2_with fail;refine(HRp w3).mono ?_;rintro e w4 ⟨rfl,hb6⟩;have hb7:=Zaa hb5 hb6;clear hb5 hb6;go_wp2_with fail;refine(HA2.out _ (HE.out.below hb7)).mono ?_;rintro e w5 ⟨rfl,hb8⟩;have hb9:=Zaa hb7 hb8;clear hb7 hb8;go_wp2_with fail;refine(HT2.out _).mono ?_;rintro e w6 ⟨rfl,hb10⟩;have hb11:=Zaa hb9 hb10;clear hb9 hb10;go_wp2_with fail;refine(HS2.out _).mono ?_;rintro e w7 ⟨rfl,rfl⟩;go_wp2;go_ret2;exact⟨by rw[HD.out,HV.out,HK.out];rfl,hb11⟩
         · have HD:Hid (D=none):=by show _=_;rw[hD1,hf];rfl
           have HT2:Hid (∀ W,Calls prog 228 #[.string ⟨b.toArray⟩, .string ⟨#[48,49,50,51,52,53,54,55,56,57]⟩] W fun e w'=>e= .returned (.string ⟨(Lib.trimS b Zgg).toArray⟩)∧Below W.heap.size W w'):=HT.out
           by_cases z1:(b.length:Int)<1
           · clear hD hD1 hi hit hv hve hvb hvs hk hf HT HS HT2 hm hbad;go_enter func236,ntmps236;go_wp2_with fail;refine HC.out.mono ?_;rintro e w1 ⟨rfl,hb1⟩;go_wp2_with fail;refine(HA.out _ (HE.out.below hb1)).mono ?_;rintro e w2 ⟨rfl,hb2⟩;have hb3:=Zaa hb1 hb2;clear hb1 hb2;go_wp2_with fail;refine(HI.out _ (HE.out.below hb3)).mono ?_;rintro e w3 ⟨rfl,hb4⟩;have hb5:=Zaa hb3 hb4;clear hb3 hb4 HA HI HC;go_wp2_with fail;refine(HRp w3).mono ?_;rintro e w4 ⟨rfl,hb6⟩;have hb7:=Zaa hb5 hb6;clear hb5 hb6;go_wp2_with fail;refine(HA2.out _ (HE.out.below hb7)).mono ?_;rintro e w5 ⟨rfl,hb8⟩;have hb9:=Zaa hb7 hb8;clear hb7 hb8;go_wp2;go_ret2;exact⟨by rw[HD.out];rfl,hb9⟩
           · by_cases z3:(3:Int)<(b.length:Int)
             · clear hD hD1 hi hit hv hve hvb hvs hk hf HT HS HT2 hm hbad;go_enter func236,ntmps236;go_wp2_with fail;refine HC.out.mono ?_;rintro e w1 ⟨rfl,hb1⟩;go_wp2_with fail;refine(HA.out _ (HE.out.below hb1)).mono ?_;rintro e w2 ⟨rfl,hb2⟩;have hb3:=Zaa hb1 hb2;clear hb1 hb2;go_wp2_with fail;refine(HI.out _ (HE.out.below hb3)).mono ?_;rintro e w3 ⟨rfl,hb4⟩;have hb5:=Zaa hb3 hb4;clear hb3 hb4 HA HI HC;go_wp2_with fail;refine(HRp w3).mono ?_;rintro e w4 ⟨rfl,hb6⟩;have hb7:=Zaa hb5 hb6;clear hb5 hb6;go_wp2_with fail;refine(HA2.out _ (HE.out.below hb7)).mono ?_;rintro e w5 ⟨rfl,hb8⟩;have hb9:=Zaa hb7 hb8;clear hb7 hb8;go_wp2;go_ret2;exact⟨by rw[HD.out];rfl,hb9⟩
             · by_cases ft:Lib.trimS b Zgg= []
               · have fs:Lib.hasSuffix b [48]=true:=((hbad.resolve_left (by omega)).resolve_left (by omega)).resolve_left (fun e=>e ft)
                 have ft2:(⟨(Lib.trimS b Zgg).toArray⟩:ByteArray).toList.isEmpty=true:=by rw[Zkw,ft];rfl
                 have HS2:Hid (∀ W,Calls prog 98 #[.string ⟨b.toArray⟩, .string ⟨#[48]⟩] W fun e w'=>e= .returned (.bool true)∧w'=W):=fun W=>by rw[←fs];exact HS.out W
                 clear hD hD1 hi hit hv hve hvb hvs hk hf ft fs HT HS hm hbad;generalize (⟨(Lib.trimS b Zgg).toArray⟩:ByteArray)=tr at *;go_enter func236,ntmps236;go_wp2_with fail;refine HC.out.mono ?_;rintro e w1 ⟨rfl,hb1⟩;go_wp2_with fail;refine(HA.out _ (HE.out.below hb1)).mono ?_;rintro e w2 ⟨rfl,hb2⟩;have hb3:=Zaa hb1 hb2;clear hb1 hb2;go_wp2_with fail;refine(HI.out _ (HE.out.below hb3)).mono ?_;rintro e w3 ⟨rfl,hb4⟩;have hb5:=Zaa hb3 hb4;clear hb3 hb4 HA HI HC;go_wp2_with fail;refine(HRp w3).mono ?_;rintro e w4 ⟨rfl,hb6⟩;have hb7:=Zaa hb5 hb6;clear hb5 hb6;go_wp2_with fail;refine(HA2.out _ (HE.out.below hb7)).mono ?_;rintro e w5 ⟨rfl,hb8⟩;have hb9:=Zaa hb7 hb8;clear hb7 hb8;go_wp2_with fail;refine(HT2.out _).mono ?_;rintro e w6 ⟨rfl,hb10⟩;have hb11:=Zaa hb9 hb10;clear hb9 hb10;go_wp2_with fail;refine(HS2.out _).mono ?_;rintro e w7 ⟨rfl,rfl⟩;go_wp2;go_ret2;exact⟨by rw[HD.out];rfl,hb11⟩
               · have ft2:(⟨(Lib.trimS b Zgg).toArray⟩:ByteArray).toList.isEmpty=false:=by rw[Zkw,List.isEmpty_eq_false_iff];exact ft
                 clear hD hD1 hi hit hv hve hvb hvs hk hf ft HT HS hm hbad;generalize (⟨(Lib.trimS b Zgg).toArray⟩:ByteArray)=tr at *;go_enter func236,ntmps236;go_wp2_with fail;refine HC.out.mono ?_;rintro e w1 ⟨rfl,hb1⟩;go_wp2_with fail;refine(HA.out _ (HE.out.below hb1)).mono ?_;rintro e w2 ⟨rfl,hb2⟩;have hb3:=Zaa hb1 hb2;clear hb1 hb2;go_wp2_with fail;refine(HI.out _ (HE.out.below hb3)).mono ?_;rintro e w3 ⟨rfl,hb4⟩;have hb5:=Zaa hb3 hb4;clear hb3 hb4 HA HI HC;go_wp2_with fail;refine(HRp w3).mono ?_;rintro e w4 ⟨rfl,hb6⟩;have hb7:=Zaa hb5 hb6;clear hb5 hb6;go_wp2_with fail;refine(HA2.out _ (HE.out.below hb7)).mono ?_;rintro e w5 ⟨rfl,hb8⟩;have hb9:=Zaa hb7 hb8;clear hb7 hb8;go_wp2_with fail;refine(HT2.out _).mono ?_;rintro e w6 ⟨rfl,hb10⟩;have hb11:=Zaa hb9 hb10;clear hb9 hb10;go_wp2;go_ret2;exact⟨by rw[HD.out];rfl,hb11⟩
       · have hf:Zfe b=false:=Zaqk (fun k e=>hok2 ⟨k,by rw[←hm];exact e⟩)
         have HD:Hid (D=none):=by show _=_;rw[hD1,hf];rfl
         have HA2:=Zhd (show ∀ W,Env W→_ from fun W hW=>Zut ⟨(b++Lib.repeatL [48] m).toArray⟩ W hW (by rw[Zeu,Yak,hrl];omega) (by rw[Zch];exact fun k e=>hok2 ⟨k,e⟩))
         clear hD hD1 hi hit hv hve hvb hvs hf hm hok2;go_enter func236,ntmps236;go_wp2_with fail;refine HC.out.mono ?_;rintro e w1 ⟨rfl,hb1⟩;go_wp2_with fail;refine(HA.out _ (HE.out.below hb1)).mono ?_;rintro e w2 ⟨rfl,hb2⟩;have hb3:=Zaa hb1 hb2;clear hb1 hb2;go_wp2_with fail;refine(HI.out _ (HE.out.below hb3)).mono ?_;rintro e w3 ⟨rfl,hb4⟩;have hb5:=Zaa hb3 hb4;clear hb3 hb4 HA HI HC;go_wp2_with fail;refine(HRp w3).mono ?_;rintro e w4 ⟨rfl,hb6⟩;have hb7:=Zaa hb5 hb6;clear hb5 hb6;go_wp2_with fail;refine(HA2.out _ (HE.out.below hb7)).mono ?_;rintro e w5 ⟨v',ap,rfl,hb8⟩;have hb9:=Zaa hb7 hb8;clear hb7 hb8;go_wp2;go_ret2;exact⟨by rw[HD.out];rfl,hb9⟩
   · have HD:Hid (D=none):=by
      show _=_;rw[hD,hi];cases pt<;>simp
     by_cases h6:6<a.length
     · have hz6:(6:Int)<(a.length:Int):=by omega
       clear hD hi hbad hv hvb HI;go_enter func236,ntmps236;go_wp2_with fail;refine HC.out.mono ?_;rintro e w1 ⟨rfl,hb1⟩;go_wp2_with fail;refine(HA.out _ (HE.out.below hb1)).mono ?_;rintro e w2 ⟨rfl,hb2⟩;have hb3:=Zaa hb1 hb2;clear hb1 hb2;go_wp2;go_ret2;exact⟨by rw[HD.out];rfl,hb3⟩
     · have hz6: ¬ (6:Int)<(a.length:Int):=by omega
       by_cases hv0:v<0
       · clear hD hi hbad hv hvb HI;go_enter func236,ntmps236;go_wp2_with fail;refine HC.out.mono ?_;rintro e w1 ⟨rfl,hb1⟩;go_wp2_with fail;refine(HA.out _ (HE.out.below hb1)).mono ?_;rintro e w2 ⟨rfl,hb2⟩;have hb3:=Zaa hb1 hb2;clear hb1 hb2;go_wp2;go_ret2;exact⟨by rw[HD.out];rfl,hb3⟩
       · have hne:(Lib.itoa v==a)=false:=by
          rw[Yai];exact(hbad.resolve_left (by omega)).resolve_left hv0
         have hne2:((⟨(Lib.itoa v).toArray⟩:ByteArray).toList==(⟨a.toArray⟩:ByteArray).toList)=false:=by rw[Lib.toList_data,Lib.toList_data,Zch,Zch];exact hne
         have HNE:=Zhd hne2;clear hD hi hbad hv hvb;generalize Lib.itoa v=it at *;go_enter func236,ntmps236;go_wp2_with fail;refine HC.out.mono ?_;rintro e w1 ⟨rfl,hb1⟩;go_wp2_with fail;refine(HA.out _ (HE.out.below hb1)).mono ?_;rintro e w2 ⟨rfl,hb2⟩;have hb3:=Zaa hb1 hb2;clear hb1 hb2;go_wp2_with fail;refine(HI.out _ (HE.out.below hb3)).mono ?_;rintro e w3 ⟨rfl,hb4⟩;have hb5:=Zaa hb3 hb4;clear hb3 hb4 HA HI HC;have hne3:=HNE.out;go_wp2;go_ret2;exact⟨by rw[HD.out];rfl,hb5⟩
 · have HD:Hid (D=none):=by
    show _=_;rw[hD,Zavn (fun v e=>hok ⟨v,e⟩)];cases pt<;>simp
   have HA:=Zhd (show ∀ W,Env W→_ from fun W hW=>Zut ⟨a.toArray⟩ W hW (by rw[Zeu];omega) (by rw[Zch];exact fun v e=>hok ⟨v,e⟩))
   clear hD hok;go_enter func236,ntmps236;go_wp2_with fail;refine HC.out.mono ?_;rintro e w1 ⟨rfl,hb1⟩;go_wp2_with fail;refine(HA.out _ (HE.out.below hb1)).mono ?_;rintro e w2 ⟨v,ap,rfl,hb2⟩;have hb3:=Zaa hb1 hb2;clear hb1 hb2;go_wp2;go_ret2;exact⟨by rw[HD.out];rfl,hb3⟩
end Go.Proofs.Zq
namespace Mtr
open Go Ieee
theorem Zzc (f:Format) (neg:Bool) (rung:Nat) (h:rung≤f.infRung):(∃ s m p,f.read (f.word neg rung)= .number s m p)∨(∃ s,f.read (f.word neg rung)= .infinity s):=by
 have hlt:=f.infRung_lt;have hm:f.word neg rung%f.signWeight=rung:=by
  unfold Format.word;split
  · rw[Nat.add_mod_left,Nat.mod_eq_of_lt (by omega)]
  · rw[Nat.mod_eq_of_lt (by omega)]
 unfold Format.read;simp only[hm];split
 · exact .inl ⟨_,_,_,rfl⟩
 · split
   · exact .inl ⟨_,_,_,rfl⟩
   · rw[Yan (by omega)];exact .inr ⟨_,rfl⟩
theorem Zzb (f:Format) (neg:Bool) (mag:Nat) (place:Int):(∃ s m p,f.read (f.nearest neg mag place)= .number s m p)∨(∃ s,f.read (f.nearest neg mag place)= .infinity s):=by
 unfold Format.nearest;dsimp only;split
 · exact Zzc f _ _ (Yao _)
 · exact Zzc f _ _ (Nat.min_le_right ..)
theorem Zwn: ∃ s m p,double.read 4652007308841189376= .number s (m+1) p:=⟨false,8796093022207999,-43,by decide+kernel⟩
theorem Zxr (n:Int): ∃ r,floatBits .quo .f64 (floatOfInt .f64 n) 4652007308841189376=some r:=by
 obtain⟨s,m,p,h⟩:=Zwn;show ∃ r,double.div (double.nearest (n<0) n.natAbs 0) 4652007308841189376=some r;unfold Format.div;rw[h];rcases Zzb double (n<0) n.natAbs 0 with⟨s',m',p',h'⟩|⟨s',h'⟩
 · rw[h'];unfold Datum.quotient;exact⟨_,rfl⟩
 · rw[h'];unfold Datum.quotient;exact⟨_,rfl⟩
theorem Zze {P:Program} (t:TypeId) (n:Int): ∃ r,∀ w,(binOp .quo t (.float .f64 (floatOfInt .f64 n)) (.float .f64 4652007308841189376)).run P w= .ok (.float .f64 r) w:=by
 obtain⟨r,h⟩:=Zxr n;exact⟨r,fun w=>run_float_arith w .quo t .f64 _ _ r h⟩
open Go.Lib Adr
def sNan:List UInt8:= [110,97,110]
def sInf:List UInt8:= [105,110,102]
def sNeg:List UInt8:= [45,105,110,102]
def Zmt (l:List UInt8):Bool:=decide (l=sNan)||decide (l=sInf)||decide (l=sNeg)
def Zuf (l:List UInt8):Bool:=Zmt l||(dec (trimPrefix l [45])).isSome
end Mtr
namespace Go.Proofs.Zq
open Tryz
open Go Go.RowKit Mtr
theorem Zkl (z:Int) (w:World):(callFunc 256 #[.int .u64 z]).run prog w= .ok (.value (.float .f64 z.toNat)) w:=by
 rw[run_callFunc_extern (e:=Extern.MathFloatBits.float64frombits) func256 (by kernel_rfl) (by kernel_rfl) (by kernel_rfl) (by kernel_rfl)];rfl
theorem Zasp (z:Nat) (w:World):(callFunc 257 #[.float .f64 z]).run prog w= .ok (.value (.int .u64 z)) w:=by
 rw[run_callFunc_extern (e:=Extern.MathFloatBits.float64bits) func257 (by kernel_rfl) (by kernel_rfl) (by kernel_rfl) (by kernel_rfl)];rfl
theorem Zavv (w:World):Calls prog 252 #[] w fun e w'=>e= .returned (.float .f64 9221120237041090561)∧w'=w:=by
 have hx:=Zkl;go_enter func252,ntmps252;go_wp2;go_ret;exact⟨rfl,rfl⟩
theorem Zavk (z:Int) (w:World):Calls prog 253 #[.int .i64 z] w fun e w'=>e= .returned (.float .f64 (if 0≤z then 9218868437227405312 else 18442240474082181120))∧w'=w:=by
 have hx:=Zkl;by_cases h:0≤z
 · go_enter func253,ntmps253;go_wp2;go_ret;exact⟨rfl,rfl⟩
 · go_enter func253,ntmps253;go_wp2;go_ret;exact⟨rfl,rfl⟩
theorem Zxp (x y:Nat) (w:World):Calls prog 237 #[.float .f64 x, .float .f64 y] w fun e w'=>(∃ z,e= .returned (.float .f64 z))∧w'=w:=by
 have hx:=Zkl;have hy:=Zasp;go_enter func237,ntmps237;go_wp2;go_ret;exact⟨⟨_,rfl⟩,rfl⟩
theorem Zaan (s:ByteArray) (l:List UInt8):(s.toList==l)=decide (s.data.toList=l):=by
 rw[Lib.toList_data,Ycl,beq_iff_eq,Yap]
def Zaio (l:List UInt8) (w:World) (e:Ending) (w':World):Prop:=(∃ f,e= .returned (.tuple #[.float .f64 f, .bool (Zmt l)]))∧w'=w
theorem Zaqa (s:ByteArray) (w:World):Calls prog 234 #[.string s] w (Zaio s.data.toList w):=by
 have HX:Hid (Zmt s.data.toList=(decide (s.data.toList=sNan)||decide (s.data.toList=sInf)||decide (s.data.toList=sNeg))):=rfl
 have e1:=Zaan s [110,97,110];have e2:=Zaan s [105,110,102];have e3:=Zaan s [45,105,110,102];have HN:=Zhd Zavv;have HI:=Zhd Zavk;by_cases h1:s.data.toList=sNan
 · have q1:(s.toList== [110,97,110])=true:=e1.trans (Yal h1);have q1':s.toList= [110,97,110]:=by simpa using q1
   have HK:Hid (Zmt s.data.toList=true):=by show _=_;rw[HX.out,Yal h1];rfl
   clear e1 e2 e3 h1 HX;go_enter func234,ntmps234;go_wp2_with fail;refine(HN.out w).mono ?_;rintro e w' ⟨rfl,rfl⟩;go_wp2;exact bodyPost_ret (results_tmp2 rfl _ _ _) rfl ⟨⟨_,by rw[HK.out];rfl⟩,rfl⟩
 · have q1:(s.toList== [110,97,110])=false:=e1.trans (Yah h1);have q1': ¬ s.toList= [110,97,110]:=by simpa using q1
   by_cases h2:s.data.toList=sInf
   · have q2:(s.toList== [105,110,102])=true:=e2.trans (Yal h2);have q2':s.toList= [105,110,102]:=by simpa using q2
     have HK:Hid (Zmt s.data.toList=true):=by show _=_;rw[HX.out,Yal h2];simp
     clear e1 e2 e3 h1 h2 HX;go_enter func234,ntmps234;go_wp2_with fail;refine(HI.out 1 w).mono ?_;rintro e w' ⟨rfl,rfl⟩;go_wp2;exact bodyPost_ret (results_tmp2 rfl _ _ _) rfl ⟨⟨_,by rw[HK.out];rfl⟩,rfl⟩
   · have q2:(s.toList== [105,110,102])=false:=e2.trans (Yah h2);have q2': ¬ s.toList= [105,110,102]:=by simpa using q2
     by_cases h3:s.data.toList=sNeg
     · have q3:(s.toList== [45,105,110,102])=true:=e3.trans (Yal h3);have q3':s.toList= [45,105,110,102]:=by simpa using q3
       have HK:Hid (Zmt s.data.toList=true):=by show _=_;rw[HX.out,Yal h3];simp
       clear e1 e2 e3 h1 h2 h3 HX;go_enter func234,ntmps234;go_wp2_with fail;refine(HI.out (-1) w).mono ?_;rintro e w' ⟨rfl,rfl⟩;go_wp2;exact bodyPost_ret (results_tmp2 rfl _ _ _) rfl ⟨⟨_,by rw[HK.out];rfl⟩,rfl⟩
     · have q3:(s.toList== [45,105,110,102])=false:=e3.trans (Yah h3);have q3': ¬ s.toList= [45,105,110,102]:=by simpa using q3
       have HK:Hid (Zmt s.data.toList=false):=by show _=_;rw[HX.out,Yah h1,Yah h2,Yah h3];rfl
       clear e1 e2 e3 h1 h2 h3 HX;go_enter func234,ntmps234;go_wp2;exact bodyPost_ret (results_tmp2 rfl _ _ _) rfl ⟨⟨_,by rw[HK.out];rfl⟩,rfl⟩
def Zzy (l:List UInt8) (w:World) (e:Ending) (w':World):Prop:=(∃ f,e= .returned (.tuple #[.float .f64 f, .bool (Zuf l)]))∧Below w.heap.size w w'
theorem Zasl (s:ByteArray) (w:World) (hE:Env w) (hs:s.size≤100000000):Calls prog 209 #[.string s] w (Zzy s.data.toList w):=by
 have HX:Hid (Zuf s.data.toList=(Zmt s.data.toList||(dec (Lib.trimPrefix s.data.toList [45])).isSome)):=rfl
 have HG:=Zhd (Zaqa s w);have HP:=Zhd (Tryz.strings_CutPrefix s ⟨#[45]⟩ w)
 have hlen:(Lib.trimPrefix s.data.toList [45]).length≤100000000:=by
  have:=Zat s;unfold Lib.trimPrefix;split
  · rw[Yam];omega
  · omega
 have HD:=Zhd (Zaam ⟨(Lib.trimPrefix s.data.toList [45]).toArray⟩ w hE (by rw[Zeu];exact hlen))
 rw[Zch]at HD;have HC:=Zhd Zxp;have HQ:Hid (∀ W w',Below w.heap.size w W→w'=W→Below w.heap.size w w'):=fun W w' h e=>by rw[e];exact h
 have hRE: ∀ o,Zuf s.data.toList=o→ ∀ f W,Below w.heap.size w W→Zzy s.data.toList w (.returned (.tuple #[.float .f64 f, .bool o])) W:=fun o ho f W hb=>⟨⟨f,by rw[ho]⟩,hb⟩
 have HRE:=Zhd hRE;clear hRE;unfold Zaio at HG;have HP2:Hid (Calls prog 235 #[.string s, .string ⟨#[45]⟩] w fun e w'=>e= .returned (.tuple #[.string ⟨(Lib.trimPrefix s.data.toList [45]).toArray⟩, .bool (Lib.hasPrefix s.data.toList [45])])∧w'=w):=HP.out
 clear HP;generalize Lib.trimPrefix s.data.toList [45]=t at *;generalize Lib.hasPrefix s.data.toList [45]=sg at *;cases heo:Zmt s.data.toList with
 | true=>
   rw[heo]at HG HX;have HK:=Zhd (HRE.out true HX.out);clear HRE HX heo HD HP2;go_enter func209,ntmps209;go_wp2_with fail;refine HG.out.mono ?_;rintro e w' ⟨⟨f,rfl⟩,rfl⟩;clear HG;go_wp2;refine bodyPost_ret (results_tmp2 rfl _ _ _) rfl ?_;exact HK.out f _ (Yae _ _)
 | false=>
   rw[heo,Bool.false_or]at HX;rw[heo]at HG;clear heo;unfold Zats at HD;cases hd:dec t with
   | none=>
     rw[hd]at HX HD;have HK:=Zhd (HRE.out false HX.out);clear HRE HX hd;go_enter func209,ntmps209;go_wp2_with fail;refine HG.out.mono ?_;rintro e w' ⟨⟨f,rfl⟩,rfl⟩;clear HG;go_wp2_with fail;refine HP2.out.mono ?_;rintro e w' ⟨rfl,rfl⟩;clear HP2;go_wp2_with fail;refine HD.out.mono ?_;rintro e w' ⟨rfl,hb⟩;clear HD;go_wp2;refine bodyPost_ret (results_tmp2 rfl _ _ _) rfl ?_;exact HK.out _ _ hb
   | some n=>
     rw[hd]at HX HD;have HK:=Zhd (HRE.out true HX.out);obtain⟨fq,hq⟩:=Zze (P:=prog) 250 (n:Int);clear HRE HX hd;cases sg with
     | false=>
       go_enter func209,ntmps209;go_wp2_with fail;refine HG.out.mono ?_;rintro e w' ⟨⟨f,rfl⟩,rfl⟩;clear HG;go_wp2_with fail;refine HP2.out.mono ?_;rintro e w' ⟨rfl,rfl⟩;clear HP2;go_wp2_with fail;refine HD.out.mono ?_;rintro e w' ⟨rfl,hb⟩;clear HD;go_wp2;refine bodyPost_ret (results_tmp2 rfl _ _ _) rfl ?_;exact HK.out _ _ hb
     | true=>
       go_enter func209,ntmps209;go_wp2_with fail;refine HG.out.mono ?_;rintro e w' ⟨⟨f,rfl⟩,rfl⟩;clear HG;go_wp2_with fail;refine HP2.out.mono ?_;rintro e w' ⟨rfl,rfl⟩;clear HP2;go_wp2_with fail;refine HD.out.mono ?_;rintro e w1 ⟨rfl,hb⟩;clear HD;go_wp2_with fail;refine(HC.out _ _ _).mono ?_;rintro e w2 ⟨⟨z,rfl⟩,rfl⟩;go_wp2;refine bodyPost_ret (results_tmp2 rfl _ _ _) rfl ?_;exact HK.out _ _ hb
end Go.Proofs.Zq
namespace Sch
open Go Go.Lib Adr Mtr Tre
def Zcn:ByteArray:=⟨#[104,111,115,116,115]⟩
def wIp:ByteArray:=⟨#[105,112]⟩
def wMac:ByteArray:=⟨#[109,97,99]⟩
def Zfp:ByteArray:=⟨#[118,110,105,115]⟩
def Zjd:ByteArray:=⟨#[115,117,98,110,101,116]⟩
def Zzt:ByteArray:=⟨#[98,105,110,100,105,110,103,115]⟩
def Zayp:ByteArray:=⟨#[104,111,115,116]⟩
def wVni:ByteArray:=⟨#[118,110,105]⟩
def Zov:ByteArray:=⟨#[114,111,117,116,101,115]⟩
def wVia:ByteArray:=⟨#[118,105,97]⟩
def Zaot:ByteArray:=⟨#[109,101,116,114,105,99]⟩
def Zkp:ByteArray:=⟨#[112,111,108,105,99,121]⟩
def Zaos:ByteArray:=⟨#[97,99,116,105,111,110]⟩
def Zayo:ByteArray:=⟨#[102,114,111,109]⟩
def wTo:ByteArray:=⟨#[116,111]⟩
def Zgs:ByteArray:=⟨#[36,110,97,109,101]⟩
def tIp:ByteArray:=⟨#[36,105,112]⟩
def Zhk:ByteArray:=⟨#[36,112,114,101,102,105,120]⟩
def tMac:ByteArray:=⟨#[36,109,97,99]⟩
def tVni:ByteArray:=⟨#[36,118,110,105]⟩
def tNum:ByteArray:=⟨#[36,110,117,109]⟩
def Zacl:ByteArray:=⟨#[36,109,101,116,114,105,99]⟩
def Zack:ByteArray:=⟨#[36,97,99,116,105,111,110]⟩
def Zacq:ByteArray:=⟨#[112,101,114,109,105,116]⟩
def Zaxa:ByteArray:=⟨#[100,101,110,121]⟩
def Zale (c:UInt8):Bool:=decide (97≤c.toNat)&&decide (c.toNat≤122)
def isNm (c:UInt8):Bool:=Zale c||Zdf c||c==45
def nameB (l:List UInt8):Bool:=decide (1≤l.length)&&decide (l.length≤16)&&Zale (l.getD 0 0)&&l.all isNm
def Zez (k w:ByteArray):Bool:=
 if k=Zgs then nameB w.data.toList else if k=tIp then decide (0≤ip w.data.toList)else if k=Zhk then decide (0≤(pre w.data.toList).1)
 else if k=tMac then decide (0≤mac w.data.toList)else if k=tVni then numIn w.data.toList 1 16777215 else if k=tNum then numIn w.data.toList 1 1000
 else if k=Zacl then Zuf w.data.toList else if k=Zack then(decide (w=Zacq)||decide (w=Zaxa))else false
structure Rule where
 path:List ByteArray
 one:Bool
 needed:Bool
def Zam:List Rule:= [
 ⟨[Zcn],false,false⟩,
 ⟨[Zcn,Zgs],false,false⟩,
 ⟨[Zcn,Zgs,wIp],true,true⟩,
 ⟨[Zcn,Zgs,wIp,tIp],false,false⟩,
 ⟨[Zcn,Zgs,wMac],true,false⟩,
 ⟨[Zcn,Zgs,wMac,tMac],false,false⟩,
 ⟨[Zcn,Zgs,Zfp],false,false⟩,
 ⟨[Zcn,Zgs,Zfp,tVni],false,false⟩,
 ⟨[Zfp],false,false⟩,
 ⟨[Zfp,tVni],false,false⟩,
 ⟨[Zfp,tVni,Zjd],true,true⟩,
 ⟨[Zfp,tVni,Zjd,Zhk],false,false⟩,
 ⟨[Zzt],false,false⟩,
 ⟨[Zzt,tIp],false,false⟩,
 ⟨[Zzt,tIp,Zayp],true,true⟩,
 ⟨[Zzt,tIp,Zayp,Zgs],false,false⟩,
 ⟨[Zzt,tIp,wMac],true,true⟩,
 ⟨[Zzt,tIp,wMac,tMac],false,false⟩,
 ⟨[Zzt,tIp,wVni],true,true⟩,
 ⟨[Zzt,tIp,wVni,tVni],false,false⟩,
 ⟨[Zov],false,false⟩,
 ⟨[Zov,Zhk],false,false⟩,
 ⟨[Zov,Zhk,wVia],true,true⟩,
 ⟨[Zov,Zhk,wVia,Zgs],false,false⟩,
 ⟨[Zov,Zhk,Zaot],true,false⟩,
 ⟨[Zov,Zhk,Zaot,Zacl],false,false⟩,
 ⟨[Zkp],false,false⟩,
 ⟨[Zkp,tNum],false,false⟩,
 ⟨[Zkp,tNum,Zaos],true,true⟩,
 ⟨[Zkp,tNum,Zaos,Zack],false,false⟩,
 ⟨[Zkp,tNum,Zayo],true,false⟩,
 ⟨[Zkp,tNum,Zayo,Zhk],false,false⟩,
 ⟨[Zkp,tNum,wTo],true,false⟩,
 ⟨[Zkp,tNum,wTo,Zhk],false,false⟩]
def Zjx (p:ByteArray):Bool:=hasPrefix p.data.toList [36]
def Zll (p w:ByteArray):Bool:=if Zjx p then Zez p w else decide (p=w)
def Zbm:List ByteArray→List ByteArray→Bool
 | [],[]=>true
 |p::ps,w::ws=>Zll p w&&Zbm ps ws
 | [],_::_=>false
 |_::_,[]=>false
def Zjj (p:List ByteArray):Option Rule:=Zam.find? fun r=>Zbm r.path p
def Zabp (p:List ByteArray) (r:Rule):Bool:=r.needed&&Zbm (r.path.take (r.path.length-1)) p
def Zalk (r:Rule):ByteArray:=r.path.getD (r.path.length-1) ⟨#[]⟩
def Zea (p:List ByteArray):List ByteArray:=(Zam.filter (Zabp p)).map Zalk
def Zmb (p:List ByteArray) (r:Rule):Bool:=decide (r.path.length=p.length)&&Zbm (r.path.take (p.length-1)) (p.take (p.length-1))&&Zjx (r.path.getD (p.length-1) ⟨#[]⟩)
def Zgq (p:List ByteArray):Int:=if Zam.any (Zmb p)then 2 else 3
theorem Zatu {p:ByteArray} (h:Zjx p=false) (w:ByteArray):Zll p w=decide (w=p):=by unfold Zll;rw[h];simp[eq_comm]
theorem Zaxq {p:ByteArray} (h:Zjx p=true) (w:ByteArray):Zll p w=Zez p w:=by unfold Zll;rw[h];rfl
theorem Zaau (w:ByteArray):Zll Zcn w=decide (w=Zcn):=Zatu (by decide+kernel) w
theorem Zaqi (w:ByteArray):Zll wIp w=decide (w=wIp):=Zatu (by decide+kernel) w
theorem Zagm (w:ByteArray):Zll Zgs w=Zez Zgs w:=Zaxq (by decide+kernel) w
theorem Ztc (p:ByteArray) (ps:List ByteArray):Zbm (p::ps) []=false:=rfl
theorem Zalu:Zbm [] []=true:=rfl
theorem Zty (p w:ByteArray) (ps ws:List ByteArray):Zbm (p::ps) (w::ws)=(Zll p w&&Zbm ps ws):=rfl
theorem Znd: ∀ {p q:List ByteArray},Zbm p q=true→p.length=q.length
 | [],[],_=>rfl
 | p::ps,w::ws,h=>by
   rw[Zty,Yat]at h;rw[Ybf,Ybf,Znd h.2]
 | [],_::_,h=>by cases h
 |_::_,[],h=>by cases h
theorem Zabn {p q:List ByteArray} (h:p.length≠q.length):Zbm p q=false:=by
 rw[Ycx];exact fun h2=>h (Znd h2)
attribute [local simp] List.find?_cons Zty Zalu Ztc Zaau Zaqi Zagm 
theorem Zabq {p:List ByteArray} (h:p.length≠2):Zea p= []:=by
 unfold Zea;have hall: ∀ r∈Zam,r.needed=true→(r.path.take (r.path.length-1)).length=2:=by decide+kernel
 rw[List.filter_eq_nil_iff.2]
 · rfl
 · intro r hr h2;unfold Zabp at h2;rw[Yat]at h2;have:=Znd h2.2;rw[hall r hr h2.1]at this;omega
end Sch
namespace Mtr
open Go Go.Lib Adr
end Mtr
namespace Go.Proofs.Zq
open Tryz
open Go Go.RowKit Mtr
end Go.Proofs.Zq
