import Derived.Laws.AppendOwnNone
import Derived.Deep.RegionWith
import Derived.Test.YtkbojechhmmkcaaGreatDoorK04
set_option linter.unusedVariables false
set_option linter.unusedSimpArgs false
set_option maxHeartbeats 4000000
set_option maxRecDepth 100000
namespace Lx
open Go Go.Lib
theorem Zakn: ∀ (n:Nat) (l:List UInt8) (f g:Nat),l.length≤n→l.length≤f→l.length≤g→Zew f l=Zew g l:=by
 intro n
 induction n with
 |zero=>intro l f g h _ _;obtain rfl:=Yap (Nat.le_zero.1 h);rw[Zll,Zll]
 | succ n ih=>
   intro l f g h hf hg;cases l with
   |nil=>rw[Zll,Zll]
   | cons c l=>
     obtain⟨f,rfl⟩: ∃ k,f=k+1:=⟨f-1,by simp at hf;omega⟩
     obtain⟨g,rfl⟩: ∃ k,g=k+1:=⟨g-1,by simp at hg;omega⟩
     rw[Zqk,Zqk];by_cases h0:(Zcm (c::l)).2=0
     · rw[Yam h0,Yam h0]
     · rw[Yab h0,Yab h0];have hl:((c::l).drop (Zcm (c::l)).2).length≤l.length:=by rw[Yan,Ybd];omega
       simp only[Ybd]at h hf hg;rw[ih _ f g (by omega) (by omega) (by omega)]
theorem Zacx {l:List UInt8} (h: ¬ (1<l.length∧l.getD 0 0=34∧l.getD (l.length-1) 0=34)):unqB l=if(decide (l≠ [])&&decide (runB l=l.length)&& !(markB l))=true then(if 40<l.length then([],5)else(l,0))else([],2):=by
 unfold unqB
 have e:(decide (1<l.length)&&decide (l.getD 0 0=34)&&decide (l.getD (l.length-1) 0=34))=false:=by
  rw[Yda];intro e;simp only[Yaq,Yao]at e;exact h ⟨e.1.1,e.1.2,e.2⟩
 rw[e];simp only[Yeb,if_false];by_cases hb:(decide (l≠ [])&&decide (runB l=l.length)&& !(markB l))=true
 · rw[Yam hb,Yam hb]
 · rw[Yab hb,Yab hb]
theorem Zatb {l:List UInt8} (h:1<l.length∧l.getD 0 0=34∧l.getD (l.length-1) 0=34):unqB l=match Zew l.length ((l.drop 1).take (l.length-2))with|none=>([],2)|some s=>if 40<s.length then([],5)else(s,0):=by
 unfold unqB
 have e:(decide (1<l.length)&&decide (l.getD 0 0=34)&&decide (l.getD (l.length-1) 0=34))=true:=by
  simp only[Yaq,Yao];exact⟨⟨h.1,h.2.1⟩,h.2.2⟩
 rw[e];simp only[if_true];cases Zew l.length ((l.drop 1).take (l.length-2))<;>rfl
theorem Zahc (l:List UInt8):Zapc (some l)= .tuple #[.string ⟨l.toArray⟩, .bool true]:=rfl
theorem Zarj:Zbq []=none:=rfl
theorem Zark (c:UInt8) (l:List UInt8) (h1:c≠92) (h2:c≠34):Zbq (c::l)=(Zbq l).map (· +1):=by
 conv=>lhs;unfold Zbq
 rw[Yab h1,Yab h2]
theorem Zari (l:List UInt8):Zbq (34::l)=some 1:=by
 unfold Zbq;rw[Yab (by decide),Yam rfl]
theorem Zarh (d:UInt8) (l:List UInt8):Zbq (92::d::l)=(Zbq l).map (· +2):=by
 conv=>lhs;unfold Zbq
 rw[Yam rfl]
theorem Zalh:Zbq [92]=none:=by
 unfold Zbq;rw[Yam rfl]
end Lx
namespace Go.Proofs.Zq
open Tryz
open Go Go.RowKit Go.Sort Lx
theorem scan_quote (s:ByteArray) (p:Nat) (w:World) (hs:s.size≤1000000000) (hp:p<s.size) (h34:s[p]=34):
 Calls prog 146 #[.string s, .int .i64 p] w fun e w'=>e= .returned (Zik p (Zet (s.data.toList.drop p)))∧w'=w:=by
 have hX:Zet (s.data.toList.drop p)=match Zbq (s.data.toList.drop (p+1))with|some n=>n+1|none=>0:=by
  rw[drop_at hp,h34];rfl
 have hR: ∃ R,Zet (s.data.toList.drop p)=R:=⟨_,rfl⟩;obtain⟨R,hR⟩:=hR;rw[hR]at hX⊢;have HX:=Zhd hX;have hne:((s[p].toNat:Int)!=34)=false:=by rw[h34];rfl
 clear hX hR h34;go_enter func146,ntmps146;go_wp2;go_loop [7] (fun v=> ∃ k:Nat,p+1≤k∧k≤s.size+1∧v= .int .i64 k∧Hid (Zbq (s.data.toList.drop (p+1))=(Zbq (s.data.toList.drop k)).map (· +(k-(p+1))))) (fun v=>s.size+1-(intOf v).toNat)
 case atStart=>exact⟨p+1,Yaf _,by omega,by go_num,by show _=_;cases Zbq (s.data.toList.drop (p+1))<;>simp⟩
 case round=>
  obtain⟨k,hk1,hk2,rfl,HQ⟩:=hrel;by_cases hlt:k<s.size
  · have hd:=drop_at hlt;have hc256:(s[k].toNat:Int)<256:=by have:=s[k].toNat_lt;omega
    have hq:=HQ.out;rw[hd]at hq;by_cases h92:s[k].toNat=92
    · have hce:s[k]=92:=Ybx.1 h92;have g1:((s[k].toNat:Int)==92)=true:=Znh h92;rw[hce]at hq
      have hq2:Zbq (s.data.toList.drop (p+1))=(Zbq (s.data.toList.drop (k+2))).map (· +(k+2-(p+1))):=by
       rw[hq];by_cases h2:k+1<s.size
       · rw[drop_at h2,Zarh,Option.map_map];congr 1;funext x;simp only[Function.comp];omega
       · rw[show s.data.toList.drop (k+1)= []from Ybe (by rw[Zak];omega),show s.data.toList.drop (k+2)= []from Ybe (by rw[Zak];omega),Zalh,Zarj];rfl
      have HQ2:=Zhd hq2;clear hq hq2 HQ hd hce h92;go_wp2;go_round
      case rel=>exact⟨k+2,by omega,by omega,by go_num,HQ2⟩
      case measure=>simp[intOf];omega
    · have g1:((s[k].toNat:Int)==92)=false:=Zkp h92;by_cases h34:s[k].toNat=34
      · have hce:s[k]=34:=Ybx.1 h34;have g2:((s[k].toNat:Int)==34)=true:=Znh h34;rw[hce,Zari]at hq;have HR:Hid (R=1+(k-(p+1))+1):=by show _=_;rw[HX.out,hq];rfl
        clear hq HQ hd hce h92 h34;go_wp2;go_ret2;have e1: ¬ (1+(k-(p+1))+1=0):=by omega
        have e2:0<1+(k-(p+1))+1:=by omega
        have e3:p+(1+(k-(p+1))+1)=k+1:=by omega
        refine⟨?_,rfl⟩;unfold Zik;rw[HR.out,Yab e1,Yal e2,e3];rfl
      · have g2:((s[k].toNat:Int)==34)=false:=Zkp h34
        have hq2:Zbq (s.data.toList.drop (p+1))=(Zbq (s.data.toList.drop (k+1))).map (· +(k+1-(p+1))):=by
         rw[hq,Zark _ _ (fun h=>h92 (by rw[h];rfl)) (fun h=>h34 (by rw[h];rfl)),Option.map_map]
         congr 1;funext x;simp only[Function.comp];omega
        have HQ2:=Zhd hq2;clear hq hq2 HQ hd h92 h34;go_wp2;go_round
        case rel=>exact⟨k+1,by omega,by omega,by go_num,HQ2⟩
        case measure=>simp[intOf];omega
  · have HR:Hid (R=0):=by
     show _=_;rw[HX.out,HQ.out,show s.data.toList.drop k= []from Ybe (by rw[Zak];omega)];rfl
    clear HQ;go_wp2;go_ret2;exact⟨by rw[HR.out];rfl,rfl⟩
theorem Zarx (s:ByteArray) (p:Nat) (w:World) (hs:s.size≤1000000000) (hp:p<s.size):
 Calls prog 146 #[.string s, .int .i64 p] w fun e w'=>e= .returned (Zik p (Zet (s.data.toList.drop p)))∧w'=w:=by
 by_cases h:s[p]=34
 · exact scan_quote s p w hs hp h
 · exact Zaze s p w hs hp h
theorem Zarv (l:List UInt8):runB (34::l)=0:=by
 show(if Zna 34 then _ else 0)=0
 rw[Yab (by decide)]
theorem Zacy (s:ByteArray) (w:World) (hs:s.size≤1000000) (hp:0<s.size):
 Calls prog 148 #[.string s] w fun e w'=>e= .returned (Zex (unqB s.data.toList))∧Below w.heap.size w w':=by
 by_cases h34:s[0]=34
 · have HR :=Zafg s w (by omega)
   obtain⟨r,hr,-⟩:=Zqo hp;rw[Yeu,h34]at hr;have h0:runB s.data.toList=0:=by rw[hr];exact Zarv r
   rw[h0]at HR;have HRn:=Zhd HR;have hl:=Zak s;have hg:s.data.toList.getD 0 0=34:=by rw[hr];rfl
   have he:s.toList.isEmpty=false:=Zgu hp;have he2: ¬ s.toList= []:=by simpa using he
   have hne:((s[0].toNat:Int)==34)=true:=by rw[h34];rfl
   have hn':(((0:Nat):Int)==(s.size:Int))=false:=Zkp (by omega)
   have hn2:((0:Int)==(s.size:Int))=false:=hn';have hX1:s.size=1∨1<s.size:=by omega
   clear HR;rcases hX1 with h1|h1
   · have HK:Hid (unqB s.data.toList=([],2)):=by
      show _=_;rw[Zacx (by rw[hl];omega),h0,hl,h1,Yai (by decide: ¬ (0:Nat)=1)]
      simp
     have g1: ¬ (1:Int)<(s.size:Int):=by omega
     clear hr h0 hl hg h34 h1;go_enter func148,ntmps148;go_wp2_with (go_at_call 181;refine HRn.out.mono ?_;rintro e w' ⟨rfl,rfl⟩);exact bodyPost_ret (v:=Zex ([],2)) (by simp[results,results148,go_sem,Zex]) rfl ⟨by rw[HK.out],Yag _ _⟩
   · have g1:(1:Int)<(s.size:Int):=by omega
     have hb:s.size-1<s.size:=by omega
     have hgl:s.data.toList.getD (s.data.toList.length-1) 0=s[s.size-1]:=by
      rw[hl,Yar,Yaj (by rw[hl];exact hb)];rfl
     by_cases h2:s[s.size-1]=34
     · have hU:=Zatb (l:=s.data.toList) ⟨by omega,hg,by rw[hgl];exact h2⟩
       have hxd:(s.extract 1 (s.size-1)).data.toList=(s.data.toList.drop 1).take (s.data.toList.length-2):=by
        rw[Lib.extract_data,hl]
        first|rfl|(congr 1;omega)
       have hxs:(s.extract 1 (s.size-1)).size=s.size-2:=by rw[Zgq 1 _ (by omega)];omega
       have HI:=Zhd (fun W=>Zapd (s.extract 1 (s.size-1)) W (by rw[hxs];omega))
       have hfu:Zew (s.extract 1 (s.size-1)).size (s.extract 1 (s.size-1)).data.toList=Zew s.data.toList.length ((s.data.toList.drop 1).take (s.data.toList.length-2)):=by
        rw[hxd];refine Zakn _ _ _ _ (Yaf _) ?_ ?_
        · rw[hxs,Yah,Yan,hl];omega
        · rw[Yah,Yan,hl];omega
       have HF:=Zhd hfu;rw[←hfu]at hU;have HU:=Zhd hU;have g2:((s[s.size-1].toNat:Int)==34)=true:=by rw[h2];rfl
       clear hU hfu hxd hxs hgl h2 hr h0 hg h34 HF hl;generalize Zew (s.extract 1 (s.size-1)).size (s.extract 1 (s.size-1)).data.toList=R at *;go_enter func148,ntmps148;go_wp2_with (go_at_call 181;refine HRn.out.mono ?_;rintro e w' ⟨rfl,rfl⟩);cases R with
       | none=>
         have HK:Hid (unqB s.data.toList=([],2)):=HU.out;refine(HI.out _).mono ?_;unfold Zapc;rintro e w2 ⟨rfl,hb2⟩;go_wp2;exact bodyPost_ret (v:=Zex ([],2)) (by simp[results,results148,go_sem,Zex]) rfl ⟨by rw[HK.out],hb2⟩
       | some l=>
         obtain⟨b,hbe⟩: ∃ b:ByteArray,(⟨l.toArray⟩:ByteArray)=b:=⟨_,rfl⟩;have hbs:b.size=l.length:=by rw[←hbe];rfl
         have HBe:=Zhd hbe;by_cases h40:40<l.length
         · have HK:Hid (unqB s.data.toList=([],5)):=by show _=_;rw[HU.out];simp only;rw[Yam h40]
           have g4:(40:Int)<(b.size:Int):=by omega
           clear HU hbe hbs h40;refine(HI.out _).mono ?_;rw[Zahc,HBe.out];rintro e w2 ⟨rfl,hb2⟩;go_wp2;exact bodyPost_ret (v:=Zex ([],5)) (by simp[results,results148,go_sem,Zex]) rfl ⟨by rw[HK.out],hb2⟩
         · have HK:Hid (Zex (unqB s.data.toList)= .tuple #[.string b, .int .i64 0]):=by show _=_;rw[HU.out];simp only;rw[Yab h40];unfold Zex;rw[hbe]
           have g4: ¬ (40:Int)<(b.size:Int):=by omega
           clear HU hbe hbs h40;refine(HI.out _).mono ?_;rw[Zahc,HBe.out];rintro e w2 ⟨rfl,hb2⟩;go_wp2;exact bodyPost_ret (v:= .tuple #[.string b, .int .i64 0]) (by simp[results,results148,go_sem]) rfl ⟨by rw[HK.out],hb2⟩
     · have HK:Hid (unqB s.data.toList=([],2)):=by
        show _=_;rw[Zacx (by rw[hgl];exact fun h=>h2 h.2.2),h0,hl,Yai (by omega: ¬ 0=s.size)]
        simp
       have g2:((s[s.size-1].toNat:Int)==34)=false:=Zkp fun h=>h2 (Ybx.1 h)
       clear hr h0 hl hg h34 hgl h2;go_enter func148,ntmps148;go_wp2_with (go_at_call 181;refine HRn.out.mono ?_;rintro e w' ⟨rfl,rfl⟩);exact bodyPost_ret (v:=Zex ([],2)) (by simp[results,results148,go_sem,Zex]) rfl ⟨by rw[HK.out],Yag _ _⟩
 · exact(Zaft s w (by omega) hp h34).mono fun e w' ⟨h1,h2⟩=>⟨h1,by rw[h2];exact Yag _ _⟩
theorem Zalw (s:ByteArray) (p:Nat) (w:World) (hs:s.size≤1000000) (hp:p<s.size):
 Calls prog 113 #[.string s, .int .i64 p] w fun e w'=>e= .returned (Zpt (tokB s.data.toList p))∧Below w.heap.size w w':=by
 have hT:=Zbdu (Zaoj hp);have hG:=fun W=>Zase s[p] W
 have hS:=fun W=>Zarx s p W (by omega) hp
 have hle:=Zzj (s.data.toList.drop p);rw[Yan,Zak]at hle
 have hxd: ∀ n,(s.extract p (p+n)).data.toList=(s.data.toList.drop p).take n:=fun n=>by
  rw[Lib.extract_data];congr 1;omega
 have hB:=fun n W=>Zbbm (s.extract p (p+n)) W
 have hU:=fun n (h0:0<n) (hn:p+n≤s.size) W=>Zacy (s.extract p (p+n)) W (by rw[Zgq p _ hn];omega) (by rw[Zgq p _ hn];omega)
 simp only[hxd]at hB hU;generalize hn:Zet (s.data.toList.drop p)=n at *;have HT:=Zhd hT;have HG:=Zhd hG;have HS:=Zhd hS;have HB:=Zhd (hB n);have HU:=Zhd (hU n);clear hT hG hS hB hU hxd hn;generalize (s.data.toList.drop p).take n=t at *;generalize bitB t=bt at *;generalize unqB t=u at *;generalize Zjn s[p]=sg at *;clear t;obtain⟨w1,hw1⟩: ∃ w1,w.alloc (.cells #[.int .i64 0, .int .i64 0, .string ⟨#[]⟩, .int .i64 0] 161)=w1:=⟨_,rfl⟩;have hB1:Hid (Below w.heap.size w w1):=by show Below _ _ _;rw[←hw1];exact(Yag _ _).alloc (Yaf _) _
 obtain⟨wb,hwb⟩: ∃ wb,w.heap.size=wb:=⟨_,rfl⟩;have c0:w1.cell? ⟨wb,0,none⟩=some (.int .i64 0):=by rw[←hw1,World.cell?_alloc_at _ _ _ _ hwb.symm];rfl
 have c1:w1.cell? ⟨wb,1,none⟩=some (.int .i64 0):=by rw[←hw1,World.cell?_alloc_at _ _ _ _ hwb.symm];rfl
 have c2:w1.cell? ⟨wb,2,none⟩=some (.string ⟨#[]⟩):=by rw[←hw1,World.cell?_alloc_at _ _ _ _ hwb.symm];rfl
 have c3:w1.cell? ⟨wb,3,none⟩=some (.int .i64 0):=by rw[←hw1,World.cell?_alloc_at _ _ _ _ hwb.symm];rfl
 have zf: ∀ o,w1.frozen? ⟨wb,o,none⟩=false:=fun o=>by rw[←hw1,←hwb];simp
 have HWB:=Zhd hwb;have hwl:wb<w1.heap.size:=by rw[←hw1,←hwb];simp
 go_enter func113,ntmps113;by_cases hsg:0<sg
 · have HK:Hid (tokB s.data.toList p=(⟨sg,p,⟨#[]⟩,0⟩,p+1,0)):=by show _=_;rw[HT.out,Yam hsg]
   clear HT HS HB HU hle;go_wp2_with (go_at_call 145;refine(HG.out _).mono ?_;rintro e w' ⟨rfl,rfl⟩);refine bodyPost_ret (v:=Zpt (⟨sg,p,⟨#[]⟩,0⟩,p+1,0)) (by simp[results,results113,go_sem,c0,c1,c2,c3,Zpt,Tok.agg]) rfl ⟨by rw[HK.out], ?_⟩
   repeat (first|exact hB1.out|refine Below.setCell ?_ (by show w.heap.size≤wb;rw[HWB.out];omega) _)
 · have HT2:=HT.out;rw[Yab hsg]at HT2;by_cases hn0:n=0
   · subst hn0;have HK:Hid (tokB s.data.toList p=(⟨0,0,⟨#[]⟩,0⟩,0,2)):=by show _=_;rw[HT2,Yam rfl]
     clear HT HT2 HB HU hle;go_wp2_with (first|(go_at_call 145;refine(HG.out _).mono ?_;rintro e w' ⟨rfl,rfl⟩)|(go_at_call 146;refine(HS.out _).mono ?_;unfold Zik;rintro e w' ⟨rfl,rfl⟩))
     refine bodyPost_ret (v:=Zpt (⟨0,0,⟨#[]⟩,0⟩,0,2)) (by simp[results,results113,go_sem,c0,c1,c2,c3,Zpt,Tok.agg]) rfl ⟨by rw[HK.out], ?_⟩
     repeat (first|exact hB1.out|refine Below.setCell ?_ (by show w.heap.size≤wb;rw[HWB.out];omega) _)
   · rw[Yab hn0]at HT2;have hpn:p+n≤s.size:=by omega
     have HU2:=Zhd (HU.out (by omega) hpn)
     have HS2:Hid (∀ W,Calls prog 146 #[.string s, .int .i64 p] W fun e w'=>e= .returned (.tuple #[.int .i64 ((p+n:Nat):Int), .bool true])∧w'=W):=fun W=>(HS.out W).mono fun e w' ⟨h1,h2⟩=>⟨by rw[h1];unfold Zik;rw[Yab hn0,Yal (by omega:0<n)],h2⟩
     by_cases hbt:0<bt
     · have HK:Hid (tokB s.data.toList p=(⟨5,p,⟨#[]⟩,bt⟩,p+n,0)):=by show _=_;rw[HT2,Yam hbt]
       clear HT HT2 HS HU HU2 hle;obtain⟨q,hq⟩: ∃ q,p+n=q:=⟨_,rfl⟩;have hpq:p≤q:=by omega
       rw[hq]at HS2 HK hpn HB;clear hq;go_wp2_with (first|(go_at_call 145;refine(HG.out _).mono ?_;rintro e w' ⟨rfl,rfl⟩)|(go_at_call 146;refine(HS2.out _).mono ?_;rintro e w' ⟨rfl,rfl⟩)|(go_at_call 147;refine(HB.out _).mono ?_;rintro e w' ⟨rfl,rfl⟩))
       refine bodyPost_ret (v:=Zpt (⟨5,p,⟨#[]⟩,bt⟩,q,0)) (by simp[results,results113,go_sem,c0,c1,c2,c3,Zpt,Tok.agg]) rfl ⟨by rw[HK.out], ?_⟩
       repeat (first|exact hB1.out|refine Below.setCell ?_ (by show w.heap.size≤wb;rw[HWB.out];omega) _)
     · rw[Yab hbt]at HT2;have HK:=Zhd HT2;clear HT HT2 HS HU hle;obtain⟨q,hq⟩: ∃ q,p+n=q:=⟨_,rfl⟩;have hpq:p≤q:=by omega
       rw[hq]at HS2 HK hpn HB HU2;clear hq;obtain⟨u1,u2⟩:=u;go_wp2_with (first|(go_at_call 145;refine(HG.out _).mono ?_;rintro e w' ⟨rfl,rfl⟩)|(go_at_call 146;refine(HS2.out _).mono ?_;rintro e w' ⟨rfl,rfl⟩)|(go_at_call 147;refine(HB.out _).mono ?_;rintro e w' ⟨rfl,rfl⟩)|(go_at_call 148;refine(HU2.out _).mono ?_;unfold Zex;rintro e w5 ⟨rfl,hb5⟩;have d0:=(hb5.cell (p:=⟨wb,0,none⟩) hwl).trans c0;have d1:=(hb5.cell (p:=⟨wb,1,none⟩) hwl).trans c1;have d2:=(hb5.cell (p:=⟨wb,2,none⟩) hwl).trans c2;have d3:=(hb5.cell (p:=⟨wb,3,none⟩) hwl).trans c3;have df: ∀ o,w5.frozen? ⟨wb,o,none⟩=false:=fun o=>(hb5.frozen (p:=⟨wb,o,none⟩) hwl).trans (zf o);have HB5:=Zhd (Zaa hB1.out hb5);clear hb5))
       refine bodyPost_ret (v:=Zpt (⟨1,p,⟨u1.toArray⟩,0⟩,q,u2)) (by simp[results,results113,go_sem,d0,d1,d2,d3,Zpt,Tok.agg]) rfl ⟨by rw[HK.out], ?_⟩
       repeat (first|exact HB5.out|refine Below.setCell ?_ (by show w.heap.size≤wb;rw[HWB.out];omega) _)
theorem Zatr (s:ByteArray) (w:World) (hE:Env w) (hs:s.size≤1000000):
 Calls prog 72 #[.string s] w (Zamg s w):=by
 obtain⟨i0,hi,hz0,hz1,hz2⟩:=info_parts Zaxe;have hl:=Zak s;have HBl:=Zhd (fun q W (hb:Below w.heap.size w W) (hq:q≤s.size)=>Zajg s q W (hE.below hb) (by omega) hq)
 have HTk:=Zhd (fun q W (hq:q<s.size)=>Zalw s q W hs hq)
 have HLE:Hid (∀ q,q≤s.size→(Zar s.data.toList (s.size+1) q).1≤s.size∧q≤(Zar s.data.toList (s.size+1) q).1):=fun q hq=>by
  have:=Zsm s.data.toList (s.size+1) q (by rw[hl];exact hq)
  rwa [hl]at this
 have HTN:Hid (∀ p,p<s.size→(tokB s.data.toList p).2.2=0→p<(tokB s.data.toList p).2.1∧(tokB s.data.toList p).2.1≤s.size):=fun p hp h0=>by
  have:=Zazn (s:=s.data.toList) (p:=p) (by rw[hl];exact hp) h0
  rwa [hl]at this
 have A0:Hid (∀ f p out,(Zar s.data.toList (s.size+1) p).2=false→Zjr s.data.toList (f+1) p out=([],(Zar s.data.toList (s.size+1) p).1,2)):=fun f p out h=>by
  have:=Zbfu (s:=s.data.toList) (f:=f) (p:=p) (out:=out);rw[hl]at this;exact this h
 have A1:Hid (∀ f p out,(Zar s.data.toList (s.size+1) p).2=true→(Zar s.data.toList (s.size+1) p).1=s.size→Zjr s.data.toList (f+1) p out=(out,0,0)):=fun f p out h h1=>by
  have:=Zbbf (s:=s.data.toList) (f:=f) (p:=p) (out:=out);rw[hl]at this;exact this h h1
 have A2:Hid (∀ f p out,(Zar s.data.toList (s.size+1) p).2=true→(Zar s.data.toList (s.size+1) p).1≠s.size→(tokB s.data.toList (Zar s.data.toList (s.size+1) p).1).2.2≠0→
  Zjr s.data.toList (f+1) p out=([],(Zar s.data.toList (s.size+1) p).1,(tokB s.data.toList (Zar s.data.toList (s.size+1) p).1).2.2)):=fun f p out h h1 h2=>by
  have:=Zbbg (s:=s.data.toList) (f:=f) (p:=p) (out:=out);rw[hl]at this;exact this h h1 h2
 have A3:Hid (∀ f p out,(Zar s.data.toList (s.size+1) p).2=true→(Zar s.data.toList (s.size+1) p).1≠s.size→(tokB s.data.toList (Zar s.data.toList (s.size+1) p).1).2.2=0→
  Zjr s.data.toList (f+1) p out=Zjr s.data.toList f (tokB s.data.toList (Zar s.data.toList (s.size+1) p).1).2.1 (out++ [(tokB s.data.toList (Zar s.data.toList (s.size+1) p).1).1])):=fun f p out h h1 h2=>by
  have:=Zbft (s:=s.data.toList) (f:=f) (p:=p) (out:=out);rw[hl]at this;exact this h h1 h2
 have HQ0:Hid (allB s.data.toList=Zjr s.data.toList (s.size+1) 0 []):=by
  show _=_;unfold allB;rw[hl]
 unfold Zamg;generalize allB s.data.toList=R at *;clear hE hl;go_enter func72,ntmps72;go_wp2;go_loopw [5,6] (fun v vi wr=> ∃ (q f:Nat) (out:List Tok),q≤s.size∧s.size-q<f∧vi= .int .i64 q∧out.length≤q∧Hid (R=Zjr s.data.toList f q out)∧Hid (wr.ownsRow w.heap.size 161 4 v out.length (toks out))∧Hid (Below w.heap.size w wr)) (fun _ vi _=>s.size-(intOf vi).toNat)
 case atStart=>exact⟨0,s.size+1,[],Yas _,by omega,rfl,Yaf _,HQ0,World.ownsRow_nil _ _ _ _,Yag _ _⟩
 case round=>
  clear HQ0;obtain⟨q,f,out,hq,hf,rfl,hol,HQ,HO,HB⟩:=hrel;obtain⟨g,rfl⟩: ∃ g,f=g+1:=⟨f-1,by omega⟩
  have HBq:=Zhd (HBl.out q wr HB.out hq);have hle:=HLE.out q hq;have a0:=A0.out g q out;have a1:=A1.out g q out;have a2:=A2.out g q out;have a3:=A3.out g q out;rw[←HQ.out]at a0 a1 a2 a3;generalize Zar s.data.toList (s.size+1) q=b at *;obtain⟨b1,b2⟩:=b;simp only at hle a0 a1 a2 a3;have HBb:Hid (Calls prog 112 #[.string s, .int .i64 q] wr fun e w'=>e= .returned (.tuple #[.int .i64 b1, .bool b2])∧w'=wr):=HBq.out
  clear HBq HQ HBl HLE A0 A1 A2 A3;cases b2 with
  | false=>
    have HK:=Zhd (a0 rfl);clear a0 a1 a2 a3 HTk HTN;go_wp2_with (go_at_call 112;refine HBb.out.mono ?_;rintro e w' ⟨rfl,rfl⟩);refine bodyPost_ret (v:= .tuple #[.slice none 0 0, .int .i64 b1, .int .i64 2]) (by simp[results,results72,go_sem]) rfl ⟨⟨_,by rw[HK.out], ?_⟩,HB.out⟩
    rw[HK.out];exact World.ownsRow_nil _ _ _ _
  | true=>
    by_cases hend:b1=s.size
    · subst hend;have HK:=Zhd (a1 rfl rfl);clear a0 a1 a2 a3 HTk HTN;go_wp2_with (go_at_call 112;refine HBb.out.mono ?_;rintro e w' ⟨rfl,rfl⟩);refine bodyPost_ret (results_tmp3 rfl _ _ _) rfl ⟨?_,HB.out⟩;rw[HK.out];exact⟨_,rfl,HO.out⟩
    · have hb1:b1<s.size:=by omega
      have hbe:((b1:Int)==(s.size:Int))=false:=by rw[Yak];omega
      have HTb:=Zhd (HTk.out b1 wr hb1);have hnx:=HTN.out b1 hb1;have a2:=a2 rfl hend;have a3:=a3 rfl hend;clear a0 a1 HTk HTN;generalize tokB s.data.toList b1=t at *;obtain⟨t1,t2,t3⟩:=t;simp only at hnx a2 a3;have HTc:Hid (Calls prog 113 #[.string s, .int .i64 b1] wr fun e w'=>e= .returned (.tuple #[.agg #[.int .i64 t1.kind, .int .i64 t1.at_, .string t1.word, .int .i64 t1.bit], .int .i64 t2, .int .i64 t3])∧Below wr.heap.size wr w'):=HTb.out
      clear HTb;by_cases h0:t3=0
      · subst h0;have HK:=Zhd (a3 rfl);obtain⟨hn1,hn2⟩:=hnx rfl;clear a2 a3 hnx;go_wp2_with (first|(go_at_call 112;refine HBb.out.mono ?_;rintro e w' ⟨rfl,rfl⟩)|(go_at_call 113;refine HTc.out.mono ?_;rintro e w2 ⟨rfl,hb2⟩;have HO2:=Zhd ((Zai HO.out hb2).alloc (.cells #[.int .i64 t1.kind, .int .i64 t1.at_, .string t1.word, .int .i64 t1.bit] 161));have HB2:=Zhd ((Zaa HB.out hb2).alloc (Zaa HB.out hb2).size (.cells #[.int .i64 t1.kind, .int .i64 t1.at_, .string t1.word, .int .i64 t1.bit] 161));clear hb2 HO HB)|(at_builtin;refine Zfv rfl _ _ 120 rfl w _ 161 i0 _ 4 40 underlying120 hi hz0 hz1 hz2 rfl (by decide) (by decide) HO2.out HB2.out rfl 1 1 t1.cells (by show Value.slice (some ⟨_,0,none⟩) 1 1=_;simp) rfl (Zasw _) (by omega) ?_;intro v' w' hown' hb'))
        have HO3:=Zhd (Zabz hown');have HB3:=Zhd hb';clear hown' hb';go_roundw
        case rel=>exact⟨t2,g,out++ [t1],hn2,by omega,by go_num,by rw[Yae];simp;omega,HK,HO3,HB3⟩
        case measure=>simp[intOf];omega
      · have HK:=Zhd (a2 h0);have h0':(t3==0)=false:=by rw[Yak];exact h0
        clear a2 a3 hnx;go_wp2_with (first|(go_at_call 112;refine HBb.out.mono ?_;rintro e w' ⟨rfl,rfl⟩)|(go_at_call 113;refine HTc.out.mono ?_;rintro e w2 ⟨rfl,hb2⟩;have HB2:=Zhd (Zaa HB.out hb2);clear hb2 HO HB))
        refine bodyPost_ret (v:= .tuple #[.slice none 0 0, .int .i64 b1, .int .i64 t3]) (by simp[results,results72,go_sem]) rfl ⟨⟨_,by rw[HK.out], ?_⟩, ?_⟩
        · rw[HK.out];exact World.ownsRow_nil _ _ _ _
        · exact HB2.out.alloc HB2.out.size _
def Zbw (e:TypeId) (a b:World):Prop:= ∀ (g:Nat) (c:Array Value) (T:TypeId),T≠e→a.heap[g]?=some (.cells c T (0,0))→b.heap[g]?=some (.cells c T (0,0))
section
variable {e:TypeId} {a b c:World}
theorem Zbw.refl (e:TypeId) (a:World):Zbw e a a:=fun _ _ _ _ h=>h
theorem Zbw.trans (h:Zbw e a b) (k:Zbw e b c):Zbw e a c:=fun g x T hT hg=>k g x T hT (h g x T hT hg)
theorem Zbw.of (h:Below a.heap.size a b):Zbw e a b:=fun g _ _ _ hg=>(h.block g (Ybf.1 hg).1).trans hg
theorem Zbw.below (h:Zbw e a b) (k:Below b.heap.size b c):Zbw e a c:=h.trans (.of k)
theorem Zbw.alloc (h:Zbw e a b) (o:Obj):Zbw e a (b.alloc o):=h.below ((Yag _ _).alloc (Yaf _) _)
theorem Zbw.own {e':TypeId} {base k n:Nat} {v:Value} {xs:List Value} (h:Zbw e a b) (hne:e'≠e) (ho:a.ownsRow base e' k v n xs):b.ownsRow base e' k v n xs:=
 ⟨ho.1,ho.2.imp id fun⟨g,cap,cur,h1,h2,h3,h4⟩=>⟨g,cap,cur,h1,h2,h g cur e' hne h3,h4⟩⟩
theorem Zbw.grown {base k n:Nat} {v:Value} {xs:List Value} (ho:a.ownsRow base e k v n xs) (hg:a.grownBy b v.ownBlock):Zbw e a b:=fun g x T hT hx=>by
 refine(hg.block g (Ybf.1 hx).1 fun h=> ?_).trans hx
 rcases ho.2 with⟨rfl,-⟩|⟨q,cap,cur,rfl,-,hh,-⟩
 · cases h
 · injection h with h
   change g=q at h;rw[h,hh]at hx;injection hx with hx
   injection hx with h1 h2
   exact hT h2.symm
end
theorem Zfk {P:Program} {ops:Array Oper} {rest:List Oper} {o:Oper} {a:Act} {Q:Exit→Act→World→Prop} (hgd:o.guard=none) (s x:Operand) (t:TypeId)
 (ho:o.op= .call {callee:= .builtin .append,args:= #[s,x],argTypes:= #[t,t]})
 (w0 wr:World) (e:TypeId) (i:TypeInfo) (z:Value) (size bytes:Nat) (ht:P.underlying t=some (.slice e)) (hi:P.info? e=some i) (hz:i.zero=some z)
 (hsize:i.size=size) (hby:i.bytes=bytes) (hzs:z.cells.size=size) (hsz:0<size) (hb64:bytes≤64)
 {v:Value} {n:Nat} {xs:List Value} (hown:wr.ownsRow w0.heap.size e size v n xs) (hb:Below w0.heap.size w0 wr) (hs:a.eval s=v)
 (m c:Nat) (news:List Value) (hx:a.eval x= .slice (some ⟨wr.heap.size,0,none⟩) m c) (hl:news.length=m*size) (h1: ∀ u∈news,u.oneCell'=true)
 (hN:n+m≤1000000000)
 (h: ∀ v' w',w'.ownsRow w0.heap.size e size v' (n+m) (xs++news)→Below w0.heap.size w0 w'→Zbw e wr w'→wpList P ops Q rest (a.put o.dst v') w'):
 wpList P ops Q (o::rest) a (wr.alloc (.cells news.toArray e)):=by
 have hbytes:(n+m)*bytes≤140737488355328:=Yat (Ydj hN hb64) (by decide)
 refine wpList_append_own _ hgd s x t ho w0.heap.size e i z size bytes ht hi hz hsize hby hzs hsz v n xs hs (hown.alloc _) ⟨wr.heap.size,0,none⟩ m c news hx hl ?_ h1 (by unfold maxLen;omega) hbytes (Yat hb.size (by simp)) ?_
 · intro j u hu;rw[Zag,Ybi,World.cell?_alloc_at _ _ _ _ rfl];simpa using hu
 · intro v' w' hown' hg _;exact h v' w' hown' ((hb.alloc hb.size _).grown hg (Yat hb.size (by simp)) fun q hq=>(hown.lt q hq).1) (((Zbw.refl e wr).alloc _).trans (Zbw.grown (hown.alloc _) hg))
theorem Zvr {P:Program} {ops:Array Oper} {rest:List Oper} {o:Oper} {a:Act} {Q:Exit→Act→World→Prop} (hgd:o.guard=none) (s x:Operand) (t:TypeId)
 (ho:o.op= .call {callee:= .builtin .append,args:= #[s,x],argTypes:= #[t,t]})
 (w0 wr:World) (e:TypeId) (i:TypeInfo) (z:Value) (size bytes:Nat) (ht:P.underlying t=some (.slice e)) (hi:P.info? e=some i) (hz:i.zero=some z)
 (hsize:i.size=size) (hby:i.bytes=bytes) (hzs:z.cells.size=size) (hsz:0<size) (hb64:bytes≤64)
 {v:Value} {n:Nat} {xs:List Value} (hown:wr.ownsRow w0.heap.size e size v n xs) (hb:Below w0.heap.size w0 wr) (hs:a.eval s=v)
 (ad:Addr) (m c:Nat) (news:List Value) (hx:a.eval x= .slice (some ad) m c) (hl:news.length=m*size) (hnews: ∀ j u,news[j]?=some u→wr.cell? (ad.add j)=some u) (h1: ∀ u∈news,u.oneCell'=true)
 (hN:n+m≤1000000000)
 (h: ∀ v' w',w'.ownsRow w0.heap.size e size v' (n+m) (xs++news)→Below w0.heap.size w0 w'→Zbw e wr w'→wpList P ops Q rest (a.put o.dst v') w'):
 wpList P ops Q (o::rest) a wr:=by
 have hbytes:(n+m)*bytes≤140737488355328:=Yat (Ydj hN hb64) (by decide)
 refine wpList_append_own _ hgd s x t ho w0.heap.size e i z size bytes ht hi hz hsize hby hzs hsz v n xs hs hown ad m c news hx hl hnews h1 (by unfold maxLen;omega) hbytes hb.size ?_
 intro v' w' hown' hg _;exact h v' w' hown' (hb.grown hg hb.size fun q hq=>(hown.lt q hq).1) (Zbw.grown hown hg)
theorem Zme {P:Program} {ops:Array Oper} {o:Oper} {a:Act} {K:Act→World→Prop} {Q:Exit→Act→World→Prop} {E:Prop} (hgd:o.guard=none) (s x:Operand) (t:TypeId)
 (ho:o.op= .call {callee:= .builtin .append,args:= #[s,x],argTypes:= #[t,t]})
 (B:Nat) (wr:World) (e:TypeId) (i:TypeInfo) (z:Value) (size bytes:Nat) (ht:P.underlying t=some (.slice e)) (hi:P.info? e=some i) (hz:i.zero=some z)
 (hsize:i.size=size) (hby:i.bytes=bytes) (hzs:z.cells.size=size) (hsz:0<size) (hb64:bytes≤64)
 {v:Value} {n:Nat} {xs:List Value} (hown:wr.ownsRow B e size v n xs) (hB:B≤wr.heap.size) (hs:a.eval s=v)
 (A:Option Addr) (m c:Nat) (news:List Value) (hx:a.eval x= .slice A m c) (hR:Rd wr size A m news) (hnil:A=none→c=0) (h1: ∀ u∈news,u.oneCell'=true)
 (hN:n+m≤1000000000)
 (h: ∀ v' w',w'.ownsRow B e size v' (n+m) (xs++news)→Below B wr w'→Zbw e wr w'→K (a.put o.dst v') w'):
 if Region.wanted o (yielded ops a.tmps)=true then Oper.wp P o a wr K Q else E:=by
 have hw:Region.wanted o (yielded ops a.tmps)=true:=by simp[Region.wanted,hgd]
 have hbytes:(n+m)*bytes≤140737488355328:=Yat (Ydj hN hb64) (by decide)
 rw[Yam hw];rcases A with _|ad
 · have hm:m=0:=by
    rcases Ybj m with h0|h0
    · exact h0
    · obtain⟨ad,h,-⟩:=hR.2 h0;cases h
   subst hm;have hn:news= []:=Yap (by simpa using hR.1)
   subst hn;obtain rfl:=hnil rfl;have hrun:=run_append_owned_none (P:=P) (w:=wr) B t o.type e i size ht hi v n xs hown;unfold Oper.wp;simp[execOp,ho,resolve,invoke,builtin,hs,hx,hrun,Result.andThen];exact h v wr (by simpa using hown) (Yag _ _) (Zbw.refl _ _)
 · exact wp_append_own wr s x t ho B e i z size bytes ht hi hz hsize hby hzs hsz v n xs hs hown ad m c news hx hR.1 (fun j u hu=>by
    obtain⟨ad',e',-,hc⟩:=hR.cell hu;injection e' with e'
    subst e';exact hc) h1 (by unfold maxLen;omega) hbytes hB
    fun v' w' hown' hg _=>h v' w' hown' ((Yag B wr).grown hg hB fun q hq=>(hown.lt q hq).1) (Zbw.grown hown hg)
end Go.Proofs.Zq
namespace Tre
open Go
structure Line where
 depth:Int
 word:ByteArray
 mark:Int
def Line.cells (l:Line):List Value:= [.int .i64 l.depth, .string l.word, .int .i64 l.mark]
def Line.agg (l:Line):Value:= .agg #[.int .i64 l.depth, .string l.word, .int .i64 l.mark]
def lines (L:List Line):List Value:=L.flatMap Line.cells
theorem Zae (L:List Line):(lines L).length=L.length*3:=by
 unfold lines
 induction L with
 |nil=>rfl
 |cons e L ih=>simp only[Ybl,Yae,ih,Ybd,Line.cells];simp;omega
theorem Zja (L:List Line) (i j:Nat) (hi:i<L.length) (hj:j<3):(lines L)[i*3+j]?=(L[i].cells)[j]?:=by
 unfold lines
 induction L generalizing i with
 |nil=>cases hi
 | cons e L ih=>
   cases i with
   | zero=>
     rw[Ybl,Ych (by simp[Line.cells];omega)];simp
   | succ i=>
     rw[Ybl,Ybm (by simp[Line.cells];omega),show(i+1)*3+j-e.cells.length=i*3+j by simp[Line.cells];omega]
     simpa using ih i (by simpa using hi)
theorem Zbg (L M:List Line):lines (L++M)=lines L++lines M:=by unfold lines;simp
theorem Zou (e:Line):lines [e]=e.cells:=by unfold lines;simp
theorem cells_one (e:Line): ∀ u∈e.cells,u.oneCell'=true:=by
 intro u hu;simp only[Line.cells,Yav,Ybq,or_false]at hu;rcases hu with rfl|rfl|rfl<;>rfl
def Zco (l:Line):Bool:=decide (0≤l.depth)&&decide (l.depth<16)&&decide (l.word.size≤40)&&decide (0≤l.mark)&&decide (l.mark≤3)
end Tre
namespace Go.Proofs.Zq
open Tryz
open Go.RowKit Tre
theorem Rd.line {w:World} {A:Option Addr} {L:List Line} (h:Rd w 3 A L.length (lines L)) {i:Nat} (hi:i<L.length):
 ∃ B O,A=some ⟨B,O,none⟩∧B<w.heap.size∧(⟨B,O,none⟩:Addr).add (i*3)=⟨B,O+i*3,none⟩∧w.cell? ⟨B,O+i*3,none⟩=some (.int .i64 L[i].depth)∧w.cell? ⟨B,O+i*3+1,none⟩=some (.string L[i].word)∧w.cell? ⟨B,O+i*3+2,none⟩=some (.int .i64 L[i].mark):=by
 obtain⟨ad,e,hb,hx⟩:=h.2 (by omega)
 have g:=fun j (hj:j<3)=>Zja L i j hi hj
 have h0:=hx (i*3) _ (by have:=g 0 (by omega);simpa[Line.cells]using this)
 have h1:=hx (i*3+1) _ (by have:=g 1 (by omega);simpa[Line.cells]using this)
 have h2:=hx (i*3+2) _ (by have:=g 2 (by omega);simpa[Line.cells]using this)
 have hs:ad.spot=none:=by
  have h00:=hx 0 _ (by have:=Zja L 0 0 (by omega) (by omega);simpa[Line.cells]using this)
  exact World.cell?_spot h00
 obtain⟨B,O,sp⟩:=ad;obtain rfl:sp=none:=hs;rw[Zag]at h0 h1 h2;exact⟨B,O,e,hb,Zag _ _ _,h0,h1,h2⟩
theorem Zaxk {w w2:World} {T:TypeId} (e:Line) (hb:Below (w.alloc (.cells #[.int .i64 e.depth, .string e.word, .int .i64 e.mark] T)).heap.size (w.alloc (.cells #[.int .i64 e.depth, .string e.word, .int .i64 e.mark] T)) w2):
 w2.cell? ⟨w.heap.size,0,none⟩=some (.int .i64 e.depth)∧w2.cell? ⟨w.heap.size,1,none⟩=some (.string e.word)∧w2.cell? ⟨w.heap.size,2,none⟩=some (.int .i64 e.mark):=by
 refine⟨?_, ?_, ?_⟩<;>(rw[hb.cell (by simp),World.cell?_alloc_at _ _ _ _ rfl];rfl)
theorem Zalt (l:Line) (w:World):Calls prog 77 #[l.agg] w fun e w'=>e= .returned (.bool (Zco l))∧Below w.heap.size w w':=by
 unfold Line.agg;have hb:Below w.heap.size w (w.alloc (.cells #[.int .i64 l.depth, .string l.word, .int .i64 l.mark] 62)):=(Yag _ _).alloc (Yaf _) _;have HB:=Zhd hb;have HX:Hid (Zco l=(decide (0≤l.depth)&&decide (l.depth<16)&&decide (l.word.size≤40)&&decide (0≤l.mark)&&decide (l.mark≤3))):=rfl;clear hb;go_enter func77,ntmps77;have HH:Hid (∀ b:Bool,b=(decide (0≤l.depth)&&decide (l.depth<16)&&decide (l.word.size≤40)&&decide (0≤l.mark)&&decide (l.mark≤3))→b=Zco l):=fun b hb=>hb.trans HX.out.symm
 clear HX;go_wp2
 all_goals
  go_ret;refine⟨Zah (HH.out _ ?_),HB.out⟩;rw[Yby];simp only[Yaq,Yao,Yeb,false_iff];omega
end Go.Proofs.Zq
