import Derived.Test.YtkbojechhmmkcaaGreatDoorK12
set_option linter.unusedVariables false
set_option linter.unusedSimpArgs false
set_option maxHeartbeats 4000000
set_option maxRecDepth 100000
namespace Sch
open Go Go.Lib Adr Mtr Tre
def bw (l:List UInt8):ByteArray:=⟨l.toArray⟩
def Zdb (s:List UInt8):Rule:=⟨(parts 32 (trimRightS s [43,33])).map bw, !(decide (trimRightS s [43,33]=s)),hasSuffix s [33]⟩
def Znj:List UInt8:= [104,111,115,116,115,124,104,111,115,116,115,32,36,110,97,109,101,124,104,111,115,116,115,32,36,110,97,109,101,32,105,112,33,124,104,111,115,116,115,32,36,110,97,109,101,32,105,112,32,36,105,112,124,104,111,115,116,115,32,36,110,97,109,101,32,109,97,99,43,124,104,111,115,116,115,32,36,110,97,109,101,32,109,97,99,32,36,109,97,99,124,104,111,115,116,115,32,36,110,97,109,101,32,118,110,105,115,124,104,111,115,116,115,32,36,110,97,109,101,32,118,110,105,115,32,36,118,110,105,124,118,110,105,115,124,118,110,105,115,32,36,118,110,105,124,118,110,105,115,32,36,118,110,105,32,115,117,98,110,101,116,33,124,118,110,105,115,32,36,118,110,105,32,115,117,98,110,101,116,32,36,112,114,101,102,105,120,124,98,105,110,100,105,110,103,115,124,98,105,110,100,105,110,103,115,32,36,105,112,124,98,105,110,100,105,110,103,115,32,36,105,112,32,104,111,115,116,33,124,98,105,110,100,105,110,103,115,32,36,105,112,32,104,111,115,116,32,36,110,97,109,101,124,98,105,110,100,105,110,103,115,32,36,105,112,32,109,97,99,33,124,98,105,110,100,105,110,103,115,32,36,105,112,32,109,97,99,32,36,109,97,99,124,98,105,110,100,105,110,103,115,32,36,105,112,32,118,110,105,33,124,98,105,110,100,105,110,103,115,32,36,105,112,32,118,110,105,32,36,118,110,105,124,114,111,117,116,101,115,124,114,111,117,116,101,115,32,36,112,114,101,102,105,120,124,114,111,117,116,101,115,32,36,112,114,101,102,105,120,32,118,105,97,33,124,114,111,117,116,101,115,32,36,112,114,101,102,105,120,32,118,105,97,32,36,110,97,109,101,124,114,111,117,116,101,115,32,36,112,114,101,102,105,120,32,109,101,116,114,105,99,43,124,114,111,117,116,101,115,32,36,112,114,101,102,105,120,32,109,101,116,114,105,99,32,36,109,101,116,114,105,99,124,112,111,108,105,99,121,124,112,111,108,105,99,121,32,36,110,117,109,124,112,111,108,105,99,121,32,36,110,117,109,32,97,99,116,105,111,110,33,124,112,111,108,105,99,121,32,36,110,117,109,32,97,99,116,105,111,110,32,36,97,99,116,105,111,110,124,112,111,108,105,99,121,32,36,110,117,109,32,102,114,111,109,43,124,112,111,108,105,99,121,32,36,110,117,109,32,102,114,111,109,32,36,112,114,101,102,105,120,124,112,111,108,105,99,121,32,36,110,117,109,32,116,111,43,124,112,111,108,105,99,121,32,36,110,117,109,32,116,111,32,36,112,114,101,102,105,120]
theorem Zalo:(parts 124 Znj).map Zdb=Zan:=by kernel_rfl
theorem Zaru:(parts 124 Znj).length=34:=by decide+kernel
theorem Zalf: ∀ s∈parts 124 Znj,s.length≤40:=by decide+kernel
def Zvl (r:Rule):List ByteArray×List Value:=(r.path,[.bool r.one, .bool r.needed])
def Zpi:List (List ByteArray×List Value):=Zan.map Zvl
theorem Zws:Zpi.length=34:=by decide+kernel
end Sch
namespace Go.Proofs.Zq
open Tryz
open Go Go.RowKit Go.Sort Sch Adr Mtr Tre
theorem Zbhf (L:List (List UInt8)):sv (L.map bw)=strs L:=by unfold sv strs bw;rw[Yes];rfl
theorem Zazi (s:ByteArray) (c:UInt8) (w:World) (hE:Env w) (hs:s.size≤100000000):
 Calls prog 96 #[.string s, .string ⟨#[c]⟩] w fun e w'=>(∃ v,e= .returned v∧Pv w' v ((Adr.parts c s.data.toList).map bw))∧Below w.heap.size w w':=by
 obtain⟨m,hm⟩:=hE.mx;refine(Tryz.strings_Split s ⟨#[c]⟩ m w (by omega) hm (Yaf 1)).mono fun e w' ⟨he,hw⟩=> ?_
 have hl:=Adr.parts_len c s.data.toList;rw[Zak]at hl;rw[Zafn,Adr.splitB_parts]at hw;have hc:=Adr.countB_parts c s;have hle:((Adr.parts c s.data.toList).map bw).length=(Adr.parts c s.data.toList).length:=Yay _;refine⟨⟨_,he,w.heap.size,(Adr.parts c s.data.toList).length,by rw[hle,hc],by rw[hle];exact Yaf _,by unfold maxLen;omega,by rw[hle];omega, ?_⟩,by rw[hw];exact(Yag _ _).alloc (Yaf _) _⟩
 rw[hle,Zbhf];refine⟨by rw[Zuu];omega,fun _=>⟨_,rfl,by rw[hw];simp,fun j u hu=> ?_⟩⟩
 rw[hw,Zag,Ybi,World.cell?_alloc_at _ _ _ _ rfl];simpa using hu
theorem Zasz (a b:Bool): ∀ c∈ [Value.bool a,Value.bool b],c.oneCell'=true:=by
 intro c hc;simp only[Yav,Ybq,or_false]at hc;rcases hc with rfl|rfl<;>rfl
theorem Zapa:(prog.info? 106).map (fun i=>(i.zero,i.size,i.bytes))=some (some (.agg #[.slice none 0 0, .bool false, .bool false]),3,32):=by kernel_rfl
def Zatm (w:World) (e:Ending) (w':World):Prop:=(∃ v,e= .returned v∧Pl w' w.heap.size 106 3 v Zpi)∧Below w.heap.size w w'
theorem Zart (w:World) (hE:Env w):Calls prog 59 #[] w (Zatm w):=by
 obtain⟨i0,hi,hz0,hz1,hz2⟩:=info_parts Zapa
 have HS:Hid (Calls prog 96 #[.string ⟨Znj.toArray⟩, .string ⟨#[124]⟩] w (Zxb w 124 Znj)):=by
  have:=Zaco ⟨Znj.toArray⟩ 124 w hE (by decide+kernel)
  rw[Zcw]at this;exact this
 have HE:=Zhd hE;have hlen:=Zaru;have HSZ:=Zhd Zalf;have HRF:=Zhd Zalo;clear hE;go_enter func59,ntmps59;go_wp2_with fail;refine HS.out.mono ?_;clear HS;unfold Zxb;generalize Adr.parts 124 Znj=PS at *;rintro e w1 ⟨A,cap,rfl,hc1,hc2,hRd,hb1⟩
 have HR:Hid (Rd w1 1 A (PS.map bw).length (sv (PS.map bw))):=by
  show Rd _ _ _ _ _;rw[Zbhf,Yay];exact hRd
 unfold maxLen at hc2;clear hRd;have HB1:=Zhd hb1;clear hb1;go_wp2;go_loopw [1,7] (fun v vi wr=> ∃ k:Nat,k≤34∧vi= .int .i64 k∧Hid (Pl wr w1.heap.size 106 3 v ((PS.take k).map fun s=>Zvl (Zdb s)))∧Hid (Below w1.heap.size w1 wr)) (fun _ vi _=>34-(intOf vi).toNat)
 case atStart=>exact⟨0,Yas _,rfl,Pl.nil _ _ _ _,Yag _ _⟩
 case round=>
  obtain⟨k,hk,rfl,HP,HB⟩:=hrel;by_cases hlt:k<34
  · have hkl:k<PS.length:=by omega
    have hkl2:k<(PS.map bw).length:=by rw[Yay];exact hkl
    obtain⟨B,O,rfl,hab,hadd,x0⟩:=(HR.out.below HB.out).strAt hkl2;have hgx:(PS.map bw)[k]=bw PS[k]:=Ycz _;rw[hgx]at x0;have hps:=HSZ.out _ (Yaw hkl)
    have hst:Hid ((PS.take (k+1)).map (fun s=>Zvl (Zdb s))=(PS.take k).map (fun s=>Zvl (Zdb s))++ [Zvl (Zdb PS[k])]):=by
     show _=_;rw[Yax hkl,Ybv];rfl
    generalize PS[k]=s at *;have hss:(bw s).size≤40:=by unfold bw;rw[Zfs];exact hps
    have HT: ∀ W,Hid (Calls prog 97 #[.string (bw s), .string ⟨#[43,33]⟩] W fun e w'=>e= .returned (.string (bw (Lib.trimRightS s [43,33])))∧Below W.heap.size W w'):=fun W=>by
     have:=Zzo (bw s) ⟨#[43,33]⟩ W (by omega) (by decide) (by decide)
     unfold bw at this;rw[Zcw]at this;exact this
    have htl:(Lib.trimRightS s [43,33]).length≤100000000:=by
     have:(Lib.trimRightS s [43,33]).length≤s.length:=by
      unfold Lib.trimRightS;rw[Ydu];exact Yat (List.dropWhile_suffix _).length_le (by simp)
     omega
    have HX: ∀ W,Env W→Hid (Calls prog 96 #[.string (bw (Lib.trimRightS s [43,33])), .string ⟨#[32]⟩] W fun e w'=>(∃ v,e= .returned v∧Pv w' v (Zdb s).path)∧Below W.heap.size W w'):=fun W hW=>by
     have:=Zazi (bw (Lib.trimRightS s [43,33])) 32 W hW (by unfold bw;rw[Zfs];exact htl)
     rw[show(bw (Lib.trimRightS s [43,33])).data.toList=Lib.trimRightS s [43,33]from Zcw _]at this;exact this
    have HF: ∀ W,Hid (Calls prog 98 #[.string (bw s), .string ⟨#[33]⟩] W fun e w'=>e= .returned (.bool (Zdb s).needed)∧w'=W):=fun W=>by
     have:=Tryz.strings_HasSuffix (bw s) ⟨#[33]⟩ W (by omega)
     rw[show(bw s).data.toList=s from Zcw _]at this;exact this
    have HO:Hid ((!((bw (Lib.trimRightS s [43,33])).toList==(bw s).toList))=(Zdb s).one):=by
     show _=_;unfold bw Zdb;rw[Lib.toList_data,Lib.toList_data,Zcw,Zcw];show _= !(decide _);rw[Yby];simp
    have HRI:Hid (Zvl (Zdb s)=((Zdb s).path,[.bool (Zdb s).one, .bool (Zdb s).needed])):=rfl;generalize Zdb s=r at *;generalize bw (Lib.trimRightS s [43,33])=p at *;generalize bw s=q at *;clear hgx hkl2 hps;go_wp2_with fail;refine(HT _).out.mono ?_;rintro e w2 ⟨rfl,hb2⟩;have hb3:=Zaa HB.out hb2;have HP2:=Zhd (HP.out.below hb2);clear HP HB hb2 HT;go_wp2_with fail;refine(HX _ (HE.out.below (Zaa HB1.out hb3))).out.mono ?_;rintro e w3 ⟨⟨v3,rfl,hv3⟩,hb4⟩;have hb5:=Zaa hb3 hb4;have HP3:=Zhd (HP2.out.below hb4);obtain⟨b3,c3,rfl,-,-,-,-,hv3,-⟩:=hv3.slice;have HV:=Zhd hv3;have HB5:=Zhd hb5;clear HP2 hb3 hb4 HX hv3 hb5;go_wp2_with fail;refine(HF _).out.mono ?_;rintro e w4 ⟨rfl,rfl⟩;rw[HO.out];clear HF HO;have hk2:((PS.take k).map (fun s=>Zvl (Zdb s))).length≤34:=by rw[Yay,Yah];omega
    generalize (PS.take k).map (fun s=>Zvl (Zdb s))=its at *
    go_wp2_with (at_builtin;refine Zoh rfl _ _ 103 rfl w1 w4 106 i0 _ 3 32 underlying103 hi hz0 hz1 hz2 rfl (by decide) (by decide) HP3.out HB5.out rfl (.slice (some ⟨b3,0,none⟩) r.path.length c3) (r.path,[.bool r.one, .bool r.needed]) rfl (Zasz _ _) HV.out rfl (by omega) ?_;intro v' w' hown' hb')
    go_roundw
    case rel=>exact⟨k+1,by omega,by go_num,by show Pl _ _ _ _ _ _;rw[hst.out,HRI.out];exact hown',hb'⟩
    case measure=>simp[intOf];omega
  · obtain rfl:k=34:=by omega
    have HF:Hid ((PS.take 34).map (fun s=>Zvl (Zdb s))=Zpi):=by
     show _=_;rw[←hlen,Ybw];unfold Zpi;rw[←HRF.out,Yes];rfl
    have HPF:=HP.out;rw[HF.out]at HPF;have HPG:=Zhd (HPF.base HB1.out.size);have HBG:=Zhd (Zaa HB1.out HB.out);clear HP HB HPF HF;go_wp2;go_ret;exact⟨⟨_,rfl,HPG.out⟩,HBG.out⟩
end Go.Proofs.Zq
namespace Sch
open Go Go.Lib Adr Mtr Tre
theorem Zakv {P Q:List ByteArray} {k:Nat} (hk:k<P.length) (hq:k<Q.length):Zbt (P.drop k) (Q.drop k)=(Znb P[k] Q[k]&&Zbt (P.drop (k+1)) (Q.drop (k+1))):=by
 rw[Yaz hk,Yaz hq];rfl
def Shw (P:List ByteArray):Prop:= ∀ s∈P,s.size≤100000000
end Sch
namespace Go.Proofs.Zq
open Tryz
open Go Go.RowKit Go.Sort Sch Adr Mtr Tre
theorem Zagn (a b:ByteArray):(a.toList==b.toList)=decide (a=b):=Zaaj
theorem Zawp (p s:ByteArray) (w:World) (hE:Env w) (_hp:p.size≤100000000) (hs:s.size≤100000000):
 Calls prog 136 #[.string p, .string s] w fun e w'=>e= .returned (.bool (Znb p s))∧Below w.heap.size w w':=by
 have HP:Hid (Calls prog 104 #[.string p, .string ⟨#[36]⟩] w fun e w'=>e= .returned (.bool (Zln p))∧w'=w):=Tryz.strings_HasPrefix p ⟨#[36]⟩ w
 have HT:=Zhd (Zazw p s w hE hs);have HF:Hid (Znb p s=if Zln p then Zga p s else decide (p=s)):=rfl
 have HQ:=Zhd (Zagn p s);cases ht:Zln p with
 | true=>
   have HK:Hid (Znb p s=Zga p s):=by show _=_;rw[HF.out,ht];rfl
   rw[ht]at HP;clear HF ht hE;go_enter func136,ntmps136;go_wp2_with fail;refine HP.out.mono ?_;rintro e w' ⟨rfl,rfl⟩;clear HP;go_wp2_with fail;refine HT.out.mono ?_;rintro e w' ⟨rfl,hb⟩;clear HT;go_wp2;go_ret;exact⟨Zah HK.out.symm,hb⟩
 | false=>
   have HK:Hid (Znb p s=decide (p=s)):=by show _=_;rw[HF.out,ht];rfl
   rw[ht]at HP;clear HF ht hE HT;go_enter func136,ntmps136;go_wp2_with fail;refine HP.out.mono ?_;rintro e w' ⟨rfl,rfl⟩;clear HP;go_wp2;go_ret;exact⟨Zah (by rw[HQ.out,HK.out]),Yag _ _⟩
theorem Zxx (A:Option Addr) (c:Nat) (P:List ByteArray) (A2:Option Addr) (c2:Nat) (Q:List ByteArray) (w:World) (hE:Env w) (hP:Rd w 1 A P.length (sv P)) (hQ:Rd w 1 A2 Q.length (sv Q)) (hpl:P.length≤100000) (_hql:Q.length≤100000) (hps:Shw P) (hqs:Shw Q):
 Calls prog 135 #[.slice A P.length c, .slice A2 Q.length c2, .func (.func 136) #[] #[]] w fun e w'=>e= .returned (.bool (Zbt P Q))∧Below w.heap.size w w':=by
 have HP:=Zhd hP;have HQ:=Zhd hQ;have HE:=Zhd hE;have HPS:=Zhd hps;have HQS:=Zhd hqs;clear hP hQ hE hps hqs;by_cases hl:P.length=Q.length
 · have hl1:((P.length:Int)!=(Q.length:Int))=false:=by rw[hl];simp
   have HM:Hid (Zbt P Q=Zbt (P.drop 0) (Q.drop 0)):=rfl;have HL:=Zhd hl;clear hl;go_enter func135,ntmps135;go_wp2;go_loopw [17] (fun vi wr=> ∃ k:Nat,k≤P.length∧vi= .int .i64 k∧Hid (Zbt P Q=Zbt (P.drop k) (Q.drop k))∧Hid (Below w.heap.size w wr)) (fun vi _=>P.length-(intOf vi).toNat)
   case atStart=>exact⟨0,Yas _,rfl,HM,Yag _ _⟩
   case round=>
    clear HM;obtain⟨k,hk,rfl,HM,HB⟩:=hrel;by_cases hlt:k<P.length
    · have hlq:k<Q.length:=by have:=HL.out;omega
      obtain⟨B,O,rfl,hab,hadd,x0⟩:=(HP.out.below HB.out).strAt hlt;obtain⟨B2,O2,rfl,hab2,hadd2,y0⟩:=(HQ.out.below HB.out).strAt hlq;have hst:Hid (Zbt P Q=(Znb P[k] Q[k]&&Zbt (P.drop (k+1)) (Q.drop (k+1)))):=HM.out.trans (Zakv hlt hlq);have HC:=Zhd (Zawp P[k] Q[k] wr (HE.out.below HB.out) (HPS.out _ (Yaw hlt)) (HQS.out _ (Yaw hlq)));generalize P[k]=p at *;generalize Q[k]=q at *;clear HM;cases hf:Znb p q with
      | true=>
        rw[hf]at hst HC;have HM2:Hid (Zbt P Q=Zbt (P.drop (k+1)) (Q.drop (k+1))):=by show _=_;rw[hst.out];rfl
        clear hst hf;go_wp2_with fail;refine HC.out.mono ?_;rintro e w2 ⟨rfl,hb2⟩;have HB2:=Zhd (Zaa HB.out hb2);clear HC HB hb2;go_wp2_with fail;go_roundw
        case rel=>exact⟨k+1,by omega,by go_num,HM2,HB2⟩
        case measure=>simp[intOf];omega
      | false=>
        rw[hf]at hst HC;have HM2:Hid (Zbt P Q=false):=by show _=_;rw[hst.out];rfl
        clear hst hf;go_wp2_with fail;refine HC.out.mono ?_;rintro e w2 ⟨rfl,hb2⟩;have HB2:=Zhd (Zaa HB.out hb2);clear HC HB hb2;go_wp2;go_ret;exact⟨Zah HM2.out.symm,HB2.out⟩
    · obtain rfl:k=P.length:=by omega
      have HM2:Hid (Zbt P Q=true):=by
       show _=_;rw[HM.out,Ydo,Ybe (by have:=HL.out;omega)];rfl
      clear HM;go_wp2;go_ret;exact⟨Zah HM2.out.symm,HB.out⟩
 · have hl1:((P.length:Int)!=(Q.length:Int))=true:=by rw[bne_iff_ne];omega
   have HM:Hid (Zbt P Q=false):=Zaep hl;clear hl;go_enter func135,ntmps135;go_wp2;go_ret;exact⟨Zah HM.out.symm,Yag _ _⟩
theorem Zlq (A:Option Addr) (c:Nat) (P:List ByteArray) (A2:Option Addr) (c2:Nat) (Q:List ByteArray) (w:World) (hE:Env w) (hP:Rd w 1 A P.length (sv P)) (hQ:Rd w 1 A2 Q.length (sv Q)) (hpl:P.length≤100000) (hql:Q.length≤100000) (hps:Shw P) (hqs:Shw Q):
 Calls prog 101 #[.slice A P.length c, .slice A2 Q.length c2] w fun e w'=>e= .returned (.bool (Zbt P Q))∧Below w.heap.size w w':=by
 have HC:=Zhd (Zxx A c P A2 c2 Q w hE hP hQ hpl hql hps hqs);clear hP hQ hE hps hqs;go_enter func101,ntmps101;go_wp2_with fail;refine HC.out.mono ?_;rintro e w2 ⟨rfl,hb2⟩;go_wp2;go_ret;exact⟨rfl,hb2⟩
end Go.Proofs.Zq
namespace Sch
open Go Go.Lib Adr Mtr Tre
def Zay (f:Rule→Bool):Nat→List Rule→Int
 |_,[]=> -1
 |k,r::l=>if f r then(k:Int)else Zay f (k+1) l
theorem Zgc {f:Rule→Bool}: ∀ (l:List Rule) (k:Nat),(Zay f k l= -1∧l.find? f=none)∨(∃ j,∃ h:j<l.length,Zay f k l=((k+j:Nat):Int)∧l.find? f=some l[j])
 | [],k=> .inl ⟨rfl,rfl⟩
 | r ::l,k=>by
   unfold Zay;cases h:f r with
   |true=>exact .inr ⟨0,by simp,by simp,by simp[h]⟩
   | false=>
     rcases Zgc (f:=f) l (k+1)with⟨h1,h2⟩|⟨j,hj,h1,h2⟩
     · exact .inl ⟨by simpa using h1,by simp[h,h2]⟩
     · exact .inr ⟨j+1,by simpa using hj,by simp only[Yeb,if_false,h1];congr 1;omega,by simp[h,h2]⟩
theorem Zxz {f:Rule→Bool} (l:List Rule) (k:Nat):decide (0≤Zay f k l)=l.any f:=by
 rcases Zgc (f:=f) l k with⟨h1,h2⟩|⟨j,hj,h1,h2⟩
 · rw[h1];have:l.any f=false:=by rw[Yfc];intro x hx;have:=List.find?_eq_none.1 h2 x hx;simpa using this
   rw[this];decide
 · rw[h1];have:l.any f=true:=by
    rw[Yei];exact⟨l[j],Yaw hj,List.find?_some h2⟩
   rw[this,Yal (by omega)]
theorem Zob: ∀ r∈Zan,Shw r.path:=by
 have h:(Zan.all fun r=>r.path.all fun s=>decide (s.size≤100000000))=true:=by decide+kernel
 intro r hr s hs;have:=Ybt.1 h r hr;simpa using Ybt.1 this s hs
theorem Zjl: ∀ r∈Zan,1≤r.path.length∧r.path.length≤4:=by
 have h:(Zan.all fun r=>decide (1≤r.path.length)&&decide (r.path.length≤4))=true:=by decide+kernel
 intro r hr;simpa using Ybt.1 h r hr
end Sch
namespace Go.Proofs.Zq
open Tryz
open Go Go.RowKit Go.Sort Sch Adr Mtr Tre
def Zpx (w:World) (A:Option Addr):Prop:=Pd w 3 A Zpi
theorem Zaln {i:Nat} (h:i<34): ∃ _hr:i<Zan.length,∃ hi:i<Zpi.length,Zpi[i]=Zvl (Zan[i]):=by
 have hl:Zan.length=34:=by decide+kernel
 refine⟨by omega,by rw[Zws];exact h, ?_⟩
 unfold Zpi;exact Ycz _
theorem Zpx.below {w w':World} {A:Option Addr} (h:Zpx w A) (hb:Below w.heap.size w w'):Zpx w' A:=Pd.below h hb
theorem Zpx.one {w:World} {A:Option Addr} (h:Zpx w A) {i:Nat} (hi:i<Zan.length):
 ∃ B O b c,A=some ⟨B,O,none⟩∧B<w.heap.size∧(⟨B,O,none⟩:Addr).add (i*3)=⟨B,O+i*3,none⟩∧Zan[i].path.length≤c∧c≤maxLen∧Rd w 1 (some ⟨b,0,none⟩) Zan[i].path.length (sv Zan[i].path)
   ∧w.cell? ⟨B,O+i*3,none⟩=some (.slice (some ⟨b,0,none⟩) Zan[i].path.length c)∧w.cell? ⟨B,O+i*3+1,none⟩=some (.bool Zan[i].one)∧w.cell? ⟨B,O+i*3+2,none⟩=some (.bool Zan[i].needed):=by
 have hl:Zan.length=34:=by decide+kernel
 obtain⟨hr,hi2,e⟩:=Zaln (i:=i) (by omega)
 obtain⟨B,O,v,e1,hb,ha,hv,h0,hj⟩:=Pd.at h hi2;rw[e]at hv hj;obtain⟨b,c,rfl,hc1,hc2,-,-,-,hrd⟩:=hv.slice;exact⟨B,O,b,c,e1,hb,ha,hc1,hc2,hrd,h0,hj 0 _ rfl,hj 1 _ rfl⟩
theorem Zaof (r:Rule) (b c pb:Nat) (A2:Option Addr) (c2:Nat) (P:List ByteArray) (w:World) (hE:Env w) (hr:r∈Zan) (hR:Rd w 1 (some ⟨b,0,none⟩) r.path.length (sv r.path)) (hc1:w.cell? ⟨pb,0,none⟩=some (.slice A2 P.length c2)) (hP:Rd w 1 A2 P.length (sv P)) (hpl:P.length≤100000) (hps:Shw P):
 Calls prog 100 #[.agg #[.slice (some ⟨b,0,none⟩) r.path.length c, .bool r.one, .bool r.needed], .pointer (some ⟨pb,0,none⟩)] w fun e w'=>e= .returned (.bool (Zbt r.path P))∧Below w.heap.size w w':=by
 obtain⟨w0,hw0⟩: ∃ w0,w.alloc (.cells #[.slice (some ⟨b,0,none⟩) r.path.length c, .bool r.one, .bool r.needed] 106)=w0:=⟨_,rfl⟩;have hb0:Below w.heap.size w w0:=by rw[←hw0];exact(Yag _ _).alloc (Yaf _) _
 have HC:=Zhd (Zlq (some ⟨b,0,none⟩) c r.path A2 c2 P w0 (hE.below hb0) (hR.below hb0) (hP.below hb0) (by have:=(Zjl r hr).2;omega) hpl (Zob r hr) hps)
 have x0:w0.cell? ⟨w.heap.size,0,none⟩=some (.slice (some ⟨b,0,none⟩) r.path.length c):=by rw[←hw0,World.cell?_alloc_at _ _ _ _ rfl];rfl
 have y0:w0.cell? ⟨pb,0,none⟩=some (.slice A2 P.length c2):=(hb0.cell (p:=⟨pb,0,none⟩) (Lib.lt_of_cell hc1)).trans hc1;have HB:=Zhd hb0;clear hE hR hP hc1 hb0 hps;go_enter func100,ntmps100;go_wp2_with fail;refine HC.out.mono ?_;rintro e w2 ⟨rfl,hb2⟩;go_wp2;go_ret;exact⟨rfl,Zaa HB.out hb2⟩
theorem Zjk:Zan.length=34:=by decide+kernel
theorem Zwa {f:Rule→Bool} {L:List Rule} {k:Nat} (h:k<L.length):Zay f k (L.drop k)=if f L[k]then(k:Int)else Zay f (k+1) (L.drop (k+1)):=by
 rw[Yaz h];rfl
def Zbaz (p:Value) (f:Rule→Bool) (w:World):Prop:= ∀ W,Below w.heap.size w W→ ∀ r∈Zan,∀ b c,r.path.length≤c→c≤maxLen→Rd W 1 (some ⟨b,0,none⟩) r.path.length (sv r.path)→
 Calls prog 100 #[.agg #[.slice (some ⟨b,0,none⟩) r.path.length c, .bool r.one, .bool r.needed],p] W fun e w'=>e= .returned (.bool (f r))∧Below W.heap.size W w'
theorem Zakj (p:Value) (f:Rule→Bool) (A:Option Addr) (c:Nat) (w:World) (hR:Zpx w A) (hF:Zbaz p f w):
 Calls prog 99 #[.slice A 34 c, .func (.func 100) #[] #[p]] w fun e w'=>e= .returned (.int .i64 (Zay f 0 Zan))∧Below w.heap.size w w':=by
 have HR:=Zhd hR;have HF:=Zhd hF;have HL:=Zhd Zjk;have HQ0:Hid (Zay f 0 Zan=Zay f 0 (Zan.drop 0)):=rfl;clear hR hF;go_enter func99,ntmps99;go_wp2;go_loopw [8] (fun vi wr=> ∃ k:Nat,k≤34∧vi= .int .i64 k∧Hid (Zay f 0 Zan=Zay f k (Zan.drop k))∧Hid (Below w.heap.size w wr)) (fun vi _=>34-(intOf vi).toNat)
 case atStart=>exact⟨0,Yas _,rfl,HQ0,Yag _ _⟩
 case round=>
  clear HQ0;obtain⟨k,hk,rfl,HQ,HB⟩:=hrel;by_cases hlt:k<34
  · have hlr:k<Zan.length:=by rw[HL.out];exact hlt
    obtain⟨B,O,b,cc,rfl,hab,hadd,hc1,hc2,hrd,x0,x1,x2⟩:=(HR.out.below HB.out).one hlr;have HC:=Zhd (HF.out wr HB.out _ (Yaw hlr) b cc hc1 hc2 hrd);have hst:Hid (Zay f 0 Zan=if f Zan[k]then(k:Int)else Zay f (k+1) (Zan.drop (k+1))):=HQ.out.trans (Zwa hlr)
    generalize Zan[k]=r at *;clear HQ hc1 hc2 hrd;cases hf:f r with
    | true=>
      rw[hf]at hst HC;have HK:Hid (Zay f 0 Zan=(k:Int)):=by show _=_;rw[hst.out];rfl
      clear hst hf;go_wp2_with fail;refine HC.out.mono ?_;rintro e w2 ⟨rfl,hb2⟩;have HB2:=Zhd (Zaa HB.out hb2);clear HC HB hb2 x0 x1 x2;go_wp2;go_ret;exact⟨Zcb HK.out.symm,HB2.out⟩
    | false=>
      rw[hf]at hst HC;have HK:Hid (Zay f 0 Zan=Zay f (k+1) (Zan.drop (k+1))):=by show _=_;rw[hst.out];rfl
      clear hst hf;go_wp2_with fail;refine HC.out.mono ?_;rintro e w2 ⟨rfl,hb2⟩;have HB2:=Zhd (Zaa HB.out hb2);clear HC HB hb2 x0 x1 x2;go_wp2_with fail;go_roundw
      case rel=>exact⟨k+1,by omega,by go_num,HK,HB2⟩
      case measure=>simp[intOf];omega
  · obtain rfl:k=34:=by omega
    have HK:Hid (Zay f 0 Zan= -1):=by
     show _=_;rw[HQ.out,Ybe (by rw[HL.out];exact Yaf _)];rfl
    clear HQ;go_wp2;go_ret;exact⟨Zcb HK.out.symm,HB.out⟩
def Zbba (p q:Value) (f:Rule→Bool) (w:World):Prop:= ∀ W,Below w.heap.size w W→ ∀ r∈Zan,∀ b c,r.path.length≤c→c≤maxLen→Rd W 1 (some ⟨b,0,none⟩) r.path.length (sv r.path)→
 Calls prog 103 #[.agg #[.slice (some ⟨b,0,none⟩) r.path.length c, .bool r.one, .bool r.needed],p,q] W fun e w'=>e= .returned (.bool (f r))∧Below W.heap.size W w'
theorem Zakk (p q:Value) (f:Rule→Bool) (A:Option Addr) (c:Nat) (w:World) (hR:Zpx w A) (hF:Zbba p q f w):
 Calls prog 99 #[.slice A 34 c, .func (.func 103) #[] #[p,q]] w fun e w'=>e= .returned (.int .i64 (Zay f 0 Zan))∧Below w.heap.size w w':=by
 have HR:=Zhd hR;have HF:=Zhd hF;have HL:=Zhd Zjk;have HQ0:Hid (Zay f 0 Zan=Zay f 0 (Zan.drop 0)):=rfl;clear hR hF;go_enter func99,ntmps99;go_wp2;go_loopw [8] (fun vi wr=> ∃ k:Nat,k≤34∧vi= .int .i64 k∧Hid (Zay f 0 Zan=Zay f k (Zan.drop k))∧Hid (Below w.heap.size w wr)) (fun vi _=>34-(intOf vi).toNat)
 case atStart=>exact⟨0,Yas _,rfl,HQ0,Yag _ _⟩
 case round=>
  clear HQ0;obtain⟨k,hk,rfl,HQ,HB⟩:=hrel;by_cases hlt:k<34
  · have hlr:k<Zan.length:=by rw[HL.out];exact hlt
    obtain⟨B,O,b,cc,rfl,hab,hadd,hc1,hc2,hrd,x0,x1,x2⟩:=(HR.out.below HB.out).one hlr;have HC:=Zhd (HF.out wr HB.out _ (Yaw hlr) b cc hc1 hc2 hrd);have hst:Hid (Zay f 0 Zan=if f Zan[k]then(k:Int)else Zay f (k+1) (Zan.drop (k+1))):=HQ.out.trans (Zwa hlr)
    generalize Zan[k]=r at *;clear HQ hc1 hc2 hrd;cases hf:f r with
    | true=>
      rw[hf]at hst HC;have HK:Hid (Zay f 0 Zan=(k:Int)):=by show _=_;rw[hst.out];rfl
      clear hst hf;go_wp2_with fail;refine HC.out.mono ?_;rintro e w2 ⟨rfl,hb2⟩;have HB2:=Zhd (Zaa HB.out hb2);clear HC HB hb2 x0 x1 x2;go_wp2;go_ret;exact⟨Zcb HK.out.symm,HB2.out⟩
    | false=>
      rw[hf]at hst HC;have HK:Hid (Zay f 0 Zan=Zay f (k+1) (Zan.drop (k+1))):=by show _=_;rw[hst.out];rfl
      clear hst hf;go_wp2_with fail;refine HC.out.mono ?_;rintro e w2 ⟨rfl,hb2⟩;have HB2:=Zhd (Zaa HB.out hb2);clear HC HB hb2 x0 x1 x2;go_wp2_with fail;go_roundw
      case rel=>exact⟨k+1,by omega,by go_num,HK,HB2⟩
      case measure=>simp[intOf];omega
  · obtain rfl:k=34:=by omega
    have HK:Hid (Zay f 0 Zan= -1):=by
     show _=_;rw[HQ.out,Ybe (by rw[HL.out];exact Yaf _)];rfl
    clear HQ;go_wp2;go_ret;exact⟨Zcb HK.out.symm,HB.out⟩
theorem Zarq {w:World} {k n b g:Nat} {xs:List Value} (h:Rd w k (some ⟨b,0,none⟩) n xs) (hne:b≠g) (o:Nat) (v:Value):Rd (w.setCell ⟨g,o,none⟩ v) k (some ⟨b,0,none⟩) n xs:=
 ⟨h.1,fun hn=>by
  obtain⟨ad,e,hb,hx⟩:=h.2 hn;injection e with e
  subst e
  exact⟨_,rfl,by simpa using hb,fun j u hu=>by
   rw[Zag,World.cell?_setCell_other _ _ _ _ (by intro e';simp only[Addr.mk.injEq]at e';omega)]
   have:=hx j u hu
   rwa [Zag]at this⟩⟩
def Zami (P:List ByteArray) (w:World) (e:Ending) (w':World):Prop:=
 ((Zfi P=none∧e= .returned (.tuple #[.agg #[.slice none 0 0, .bool false, .bool false], .bool false]))∨
  (∃ r b c,Zfi P=some r∧r∈Zan∧e= .returned (.tuple #[.agg #[.slice (some ⟨b,0,none⟩) r.path.length c, .bool r.one, .bool r.needed], .bool true])∧r.path.length≤c∧c≤maxLen∧Rd w' 1 (some ⟨b,0,none⟩) r.path.length (sv r.path)))∧Below w.heap.size w w'
theorem Zawo (A:Option Addr) (c:Nat) (A2:Option Addr) (c2:Nat) (P:List ByteArray) (w:World) (hE:Env w) (hR:Zpx w A) (hP:Rd w 1 A2 P.length (sv P)) (hpl:P.length≤100000) (hps:Shw P):
 Calls prog 60 #[.slice A 34 c, .slice A2 P.length c2] w (Zami P w):=by
 obtain⟨w0,hw0⟩: ∃ w0,(w.alloc (.cells #[.slice A2 P.length c2] 34)).alloc (.cells #[.slice none 0 0, .bool false, .bool false] 106)=w0:=⟨_,rfl⟩;have hb0:Below w.heap.size w w0:=by rw[←hw0];exact((Yag _ _).alloc (Yaf _) _).alloc (by simp) _
 have y0:w0.cell? ⟨w.heap.size,0,none⟩=some (.slice A2 P.length c2):=by
  rw[←hw0,World.cell?_alloc_lt _ _ _ (by simp),World.cell?_alloc_at _ _ _ _ rfl];rfl
 have z0: ∀ j,j<3→w0.cell? ⟨w.heap.size+1,j,none⟩=(#[Value.slice none 0 0, .bool false, .bool false]:Array Value)[j]?:=fun j hj=>by
  rw[←hw0,World.cell?_alloc_at _ _ _ _ (by simp)]
 have zf: ∀ j,w0.frozen? ⟨w.heap.size+1,j,none⟩=false:=fun j=>by
  rw[←hw0];simp
 have hsz:w0.heap.size=w.heap.size+2:=by rw[←hw0];simp
 obtain⟨wb,hwb⟩: ∃ wb,w.heap.size=wb:=⟨_,rfl⟩
 have HIx:=Zhd (Zakj (.pointer (some ⟨wb,0,none⟩)) (fun r=>Zbt r.path P) A c w0 (hR.below hb0) (fun W hbW r hr b c hc1 hc2 hrd=>by
  have hbw:=Zaa hb0 hbW;exact Zaof r b c wb A2 c2 P W (hE.below hbw) hr hrd ((hbW.cell (p:=⟨wb,0,none⟩) (by show wb<_;rw[hsz,hwb];omega)).trans (by rw[←hwb];exact y0)) (hP.below hbw) hpl hps))
 have HR:Hid (Zpx w0 A):=hR.below hb0;have HB:=Zhd hb0;have HZ:=Zhd z0;have HZF:=Zhd zf;have HSZ:=Zhd hsz;have HWB:=Zhd hwb;have HX:Hid (Zfi P=Zan.find? fun r=>Zbt r.path P):=rfl
 have HFF:=Zhd (Zgc (f:=fun r=>Zbt r.path P) Zan 0)
 clear hE hR hP hps hb0 y0 z0 zf hsz;generalize Zay (fun r=>Zbt r.path P) 0 Zan=ff at *
 go_enter func60,ntmps60;rcases HFF.out with⟨h1,h2⟩|⟨j,hj,h1,h2⟩
 · subst h1;have HN:Hid (Zfi P=none):=by show _=_;rw[HX.out,h2]
   clear h2 HX;go_wp2_with fail;refine HIx.out.mono ?_;rintro e w2 ⟨rfl,hb2⟩;have hlt:wb+1<w0.heap.size:=by rw[HSZ.out,HWB.out];omega
   have c0:w2.cell? ⟨wb+1,0,none⟩=some (.slice none 0 0):=(hb2.cell (p:=⟨wb+1,0,none⟩) hlt).trans (by rw[←HWB.out,HZ.out 0 (by omega)];rfl)
   have c1:w2.cell? ⟨wb+1,1,none⟩=some (.bool false):=(hb2.cell (p:=⟨wb+1,1,none⟩) hlt).trans (by rw[←HWB.out,HZ.out 1 (by omega)];rfl)
   have c2:w2.cell? ⟨wb+1,2,none⟩=some (.bool false):=(hb2.cell (p:=⟨wb+1,2,none⟩) hlt).trans (by rw[←HWB.out,HZ.out 2 (by omega)];rfl)
   have zf: ∀ o,w2.frozen? ⟨wb+1,o,none⟩=false:=fun o=>(hb2.frozen (p:=⟨wb+1,o,none⟩) hlt).trans (by rw[←HWB.out];exact HZF.out o)
   have hB:Hid (Below w.heap.size w w2):=Zaa HB.out hb2;clear HIx HFF HZ HZF HR hb2 HB;go_wp2;refine bodyPost_ret (v:= .tuple #[.agg #[.slice none 0 0, .bool false, .bool false], .bool false]) (by simp[results,results60,go_sem,c0,c1,c2]) rfl ⟨.inl ⟨HN.out,rfl⟩, ?_⟩
   repeat (first|exact hB.out|refine Below.setCell ?_ (by show w.heap.size≤wb+1;rw[HWB.out];omega) _)
 · have hlr:j<Zan.length:=hj;have HN:Hid (Zfi P=some Zan[j]):=by show _=_;rw[HX.out,h2]
   have hmem:=Yaw hlr;have hj34:j<34:=by rw[Zjk]at hj;exact hj
   rw[Ybi]at h1;subst h1;clear h2 HX hj;go_wp2_with fail;refine HIx.out.mono ?_;rintro e w2 ⟨rfl,hb2⟩;have hlt:wb+1<w0.heap.size:=by rw[HSZ.out,HWB.out];omega
   have c0:w2.cell? ⟨wb+1,0,none⟩=some (.slice none 0 0):=(hb2.cell (p:=⟨wb+1,0,none⟩) hlt).trans (by rw[←HWB.out,HZ.out 0 (by omega)];rfl)
   have c1:w2.cell? ⟨wb+1,1,none⟩=some (.bool false):=(hb2.cell (p:=⟨wb+1,1,none⟩) hlt).trans (by rw[←HWB.out,HZ.out 1 (by omega)];rfl)
   have c2:w2.cell? ⟨wb+1,2,none⟩=some (.bool false):=(hb2.cell (p:=⟨wb+1,2,none⟩) hlt).trans (by rw[←HWB.out,HZ.out 2 (by omega)];rfl)
   have zf: ∀ o,w2.frozen? ⟨wb+1,o,none⟩=false:=fun o=>(hb2.frozen (p:=⟨wb+1,o,none⟩) hlt).trans (by rw[←HWB.out];exact HZF.out o)
   have hB:Hid (Below w.heap.size w w2):=Zaa HB.out hb2;obtain⟨B,O,b,cc,rfl,hab,hadd,hc1,hc2,hrd,x0,x1,x2⟩:=(HR.out.below hb2).one hlr;have hrl:=Zjl _ hmem;obtain⟨g0,hg0,hrd0⟩:=hrd.2 (by omega)
   have hbb:b<w2.heap.size:=by injection hg0 with e;subst e;exact hrd0.1
   have hbne:b≠wb+1:=by
    rintro rfl;have hc:=hrd0.2 0 _ (Zks (by omega))
    injection hg0 with e
    subst e;rw[Zag,c0]at hc;cases hc
   have HRD:Hid (Rd w2 1 (some ⟨b,0,none⟩) Zan[j].path.length (sv Zan[j].path)):=hrd;have HC1:=Zhd hc1;have HC2:=Zhd hc2;have HBN:=Zhd hbne;clear HIx HFF HZ HZF HR hb2 HB hrd hrd0 hg0 hc1 hc2 hrl hbne;generalize Zan[j]=r at *;go_wp2;refine bodyPost_ret (v:= .tuple #[.agg #[.slice (some ⟨b,0,none⟩) r.path.length cc, .bool r.one, .bool r.needed], .bool true]) (by simp[results,results60,go_sem,c0,c1,c2]) rfl ⟨.inr ⟨r,b,cc,HN.out,hmem,rfl,HC1.out,HC2.out, ?_⟩, ?_⟩
   · exact Zarq (Zarq (Zarq HRD.out HBN.out _ _) HBN.out _ _) HBN.out _ _
   · repeat (first|exact hB.out|refine Below.setCell ?_ (by show w.heap.size≤wb+1;rw[HWB.out];omega) _)
end Go.Proofs.Zq
