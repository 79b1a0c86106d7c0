import Derived.Sort.Walk0
import Derived.Test.YtkbojechhmmkcaaGreatDoorK06
set_option linter.unusedVariables false
set_option linter.unusedSimpArgs false
set_option maxHeartbeats 2000000
set_option maxRecDepth 100000
namespace Tre
open Go
def Zfm (P:List ByteArray):Nat→Nat→List Line→Option Nat
 |_,_,[]=>none
 | p,i,l::r=>
   if l.depth<(p:Int)then none
   else if(p:Int)<l.depth then Zfm P p (i+1) r
   else if(l.word.toList==(P.getD p ⟨#[]⟩).toList)=false then Zfm P p (i+1) r
   else if p+1=P.length then some i else Zfm P (p+1) (i+1) r
def Zas (L:List Line) (P:List ByteArray):Option Nat:=if P.length=0∨16<P.length then none else Zfm P 0 0 L
def Zrd (o:Option Nat):Int:=match o with|some i=>(i:Int)|none=>0
theorem Zoq {P:List ByteArray}: ∀ {L:List Line} {p i j:Nat},Zfm P p i L=some j→i≤j∧j<i+L.length
 | [],_,_,_,h=>by cases h
 | l::r,p,i,j,h=>by
   unfold Zfm at h;split at h
   · cases h
   split at h
   · have:=Zoq h;simp;omega
   split at h
   · have:=Zoq h;simp;omega
   split at h
   · cases h;simp
   · have:=Zoq h;simp;omega
theorem Zcu {P:List ByteArray} {L:List Line} {j:Nat} (h:Zas L P=some j):j<L.length:=by
 unfold Zas at h;split at h
 · cases h
 · have:=Zoq h;omega
end Tre
namespace Go.Proofs.Zq
open Tryz
open Go Go.RowKit Go.Sort Tre
theorem Zca (A:Option Addr) (cap:Nat) (L:List Line) (Ap:Option Addr) (cp:Nat) (P:List ByteArray) (w:World) (hR:Rd w 3 A L.length (lines L)) (hcap:L.length≤cap) (hc:cap≤maxLen) (hr:Zab L=true) (hP:Rd w 1 Ap P.length (sv P)) (hcp:P.length≤cp) (_hc2:cp≤maxLen):
 Calls prog 47 #[.slice A L.length cap, .slice Ap P.length cp] w fun e w'=>e= .returned (.tuple #[.int .i64 (Zrd (Zas L P)), .bool (Zas L P).isSome])∧Below w.heap.size w w':=by
 have HC:=Zhd (Zbm A cap L w hR hcap hc);have h200:=Zau hr;have HR:=Zhd hR;have HP:=Zhd hP;have hRt:Hid (Zab L=true):=hr;have HF0:Hid (Zas L P=if P.length=0∨16<P.length then none else Zfm P 0 0 L):=rfl
 unfold maxLen at hc _hc2;clear hR hr hP;go_enter func47,ntmps47;go_wp2_with fail;refine HC.out.mono ?_;rintro e w1 ⟨rfl,hb1⟩;clear HC;rw[hRt.out];by_cases h0:P.length=0
 · have HF:Hid (Zas L P=none):=by show _=_;rw[HF0.out,Yam (.inl h0)]
   clear HF0;have hP0:P= []:=Yde.1 h0;subst hP0;go_wp2;exact bodyPost_ret (v:= .tuple #[.int .i64 0, .bool false]) (by simp[results,results47,go_sem]) rfl ⟨by rw[HF.out];rfl,hb1⟩
 · by_cases h16 :16<P.length
   · have HF:Hid (Zas L P=none):=by show _=_;rw[HF0.out,Yam (.inr h16)]
     clear HF0;go_wp2;exact bodyPost_ret (v:= .tuple #[.int .i64 0, .bool false]) (by simp[results,results47,go_sem]) rfl ⟨by rw[HF.out];rfl,hb1⟩
   · have HF:Hid (Zas L P=Zfm P 0 0 L):=by show _=_;rw[HF0.out,Yab (by omega)]
     have hz: ¬ (16:Int)<(P.length:Int):=by omega
     have hz0:((P.length:Int)==0)=false:=by rw[Yak];omega
     clear HF0;go_wp2;go_loopw [6,24] (fun vp vi wr=> ∃ k p:Nat,vi= .int .i64 k∧vp= .int .i64 p∧k≤L.length∧p<P.length∧Hid (Zas L P=Zfm P p k (L.drop k))∧Below w.heap.size w wr) (fun _ vi _=>L.length-(intOf vi).toNat)
     case atStart=>exact⟨0,0,rfl,rfl,by omega,by omega,HF,hb1⟩
     case round =>
      clear hb1 HF;obtain⟨k,p,rfl,rfl,hk,hp,HQ,hb⟩:=hrel;by_cases hlt:k<L.length
      · obtain ⟨B,O,rfl,hab,hadd,x0,x1,x2⟩:=(HR.out.below hb).line hlt;obtain⟨Bp,Op',rfl,hpb,hpadd,y0⟩:=(HP.out.below hb).strAt hp;have hbx:=Zaxk (w:=wr) (T:=62) L[k] (Yag _ _)
        have hyx:(wr.alloc (.cells #[.int .i64 L[k].depth, .string L[k].word, .int .i64 L[k].mark] 62)).cell? ⟨Bp,Op'+p,none⟩=some (.string P[p]):=by
         rw[World.cell?_alloc_lt _ _ _ hpb];exact y0
        have hst:Hid (Zas L P=if L[k].depth<(p:Int)then none else if(p:Int)<L[k].depth then Zfm P p (k+1) (L.drop (k+1))else if(L[k].word.toList==P[p].toList)=false then Zfm P p (k+1) (L.drop (k+1))else if p+1=P.length then some k else Zfm P (p+1) (k+1) (L.drop (k+1))):=by
         show _=_;rw[HQ.out,Yaz hlt,show P[p]=P.getD p ⟨#[]⟩ by simp[hp]];rfl
        have hbb:Below w.heap.size w (wr.alloc (.cells #[.int .i64 L[k].depth, .string L[k].word, .int .i64 L[k].mark] 62)):=Zaa hb ((Yag _ _).alloc (Yaf _) _);obtain⟨b0,b1,b2⟩:=hbx;have HB:=Zhd hbb;clear hb hbb HQ b2;generalize L[k]=x at *;obtain⟨y,hy⟩: ∃ y,P[p]=y:=⟨_,rfl⟩;rw[hy]at hst hyx;clear y0 hy;by_cases hc1:x.depth<(p:Int)
        · have HF:Hid (Zas L P=none):=by show _=_;rw[hst.out,Yam hc1]
          clear hst;go_wp2;exact bodyPost_ret (v:= .tuple #[.int .i64 0, .bool false]) (by simp[results,results47,go_sem]) rfl ⟨by rw[HF.out];rfl,HB.out⟩
        · by_cases hc2':(p:Int)<x.depth
          · have HQ2:Hid (Zas L P=Zfm P p (k+1) (L.drop (k+1))):=by show _=_;rw[hst.out,Yab hc1,Yam hc2']
            have g1:decide ((p:Int)<x.depth)=true:=Yal hc2';clear hst;go_wp2_with fail;go_quiet (fail);go_wp2;go_roundw
            case rel=>exact⟨k+1,p,by go_num,rfl,by omega,hp,HQ2,below_drewN HB.out _⟩
            case measure=>simp[intOf];omega
          · have g1:decide ((p:Int)<x.depth)=false:=Yai hc2';cases g2:x.word.toList==y.toList with
            | false=>
              have HQ2:Hid (Zas L P=Zfm P p (k+1) (L.drop (k+1))):=by show _=_;rw[hst.out,Yab hc1,Yab hc2',Yam g2]
              clear hst;go_wp2_with fail;go_quiet (fail);go_wp2;go_roundw
              case rel=>exact⟨k+1,p,by go_num,rfl,by omega,hp,HQ2,below_drewN HB.out _⟩
              case measure=>simp[intOf];omega
            | true=>
              have g3: ¬ (x.word.toList==y.toList)=false:=by rw[g2];decide
              by_cases hl:p+1=P.length
              · have HF:Hid (Zas L P=some k):=by show _=_;rw[hst.out,Yab hc1,Yab hc2',Yab g3,Yam hl]
                have hlb:((p:Int)==(P.length:Int)-1)=true:=by rw[beq_iff_eq];omega
                clear hst g3;go_wp2_with fail;go_quiet (fail);go_wp2;exact bodyPost_ret (v:= .tuple #[.int .i64 k, .bool true]) (by simp[results,results47,go_sem]) rfl ⟨by rw[HF.out];rfl,below_drewN HB.out _⟩
              · have HQ2:Hid (Zas L P=Zfm P (p+1) (k+1) (L.drop (k+1))):=by show _=_;rw[hst.out,Yab hc1,Yab hc2',Yab g3,Yab hl]
                have hlb:((p:Int)==(P.length:Int)-1)=false:=by rw[Yak];omega
                clear hst g3;go_wp2_with fail;go_quiet (fail);go_wp2;go_roundw
                case rel=>exact⟨k+1,p+1,by go_num,by go_num,by omega,by omega,HQ2,below_drewN HB.out _⟩
                case measure=>simp[intOf];omega
      · obtain rfl:k=L.length:=by omega
        have HF:Hid (Zas L P=none):=by show _=_;rw[HQ.out,Ydo];rfl
        clear HQ;go_wp2;exact bodyPost_ret (v:= .tuple #[.int .i64 0, .bool false]) (by simp[results,results47,go_sem]) rfl ⟨by rw[HF.out];rfl,hb⟩
end Go.Proofs.Zq
namespace Tre
open Go
def Zjm (P:List ByteArray):Bool:=decide (P.length≤40)&&P.all fun l=>decide (l.size≤100)
end Tre
namespace Go.Proofs.Zq
open Tryz
open Go Go.RowKit Go.Sort Tre
theorem Zvt {a b:ByteArray} (h:a.toList=b.toList):a=b:=ByteArray.ext (Yec.1 (by rwa [Lib.toList_data,Lib.toList_data]at h))
theorem Zvk (A:Option Addr) (cap:Nat) (L:List Line) (n:Nat) (w:World) (hR:Rd w 3 A L.length (lines L)) (hcap:L.length≤cap) (hc:cap≤maxLen) (hn:n<L.length):
 Calls prog 48 #[.slice A L.length cap, .int .i64 n] w fun e w'=>e= .returned (.int .i64 (Zdd L n))∧Below w.heap.size w w':=by
 have hlen:L.length≤maxLen:=by omega
 have HR:=Zhd hR;unfold maxLen at hc hlen;have HU:Hid (∀ D,Zaj L n=D→Zdd L n=Zbc L D n):=fun D h=>by rw[←h];rfl
 obtain⟨B,O,rfl,hab,hadd,x0,-,-⟩:=hR.line hn;have hDn:Hid (Zaj L n=L[n].depth):=Zaq hn;obtain⟨D,hD⟩: ∃ D,L[n].depth=D:=⟨_,rfl⟩;rw[hD]at x0;have HF:Hid (Zdd L n=Zbc L D n):=HU.out D (hDn.out.trans hD);clear hR hD hDn HU;go_enter func48,ntmps48;go_wp2;go_loopw [5,6] (fun vo vk wr=> ∃ (k:Nat) (z:Int),vo= .int .i64 z∧vk= .int .i64 k∧k≤n∧Hid (Zbc L D k=z)∧ ∃ q,wr=w.drewN q) (fun _ vk _=>n-(intOf vk).toNat)
 case atStart=>exact⟨0,-1,rfl,rfl,by omega,rfl,0,rfl⟩
 case round=>
  obtain⟨k,z,rfl,rfl,hk,HQ,q,rfl⟩:=hrel;by_cases hlt:k<n
  · have hpl:k<L.length:=by omega
    obtain⟨B',O',hA',-,hadd',y0,-,-⟩:=HR.out.line hpl;injection hA' with hA'
    injection hA' with hBB hOO
    subst hBB hOO
    have hst:Hid (Zbc L D (k+1)=if D≤L[k].depth then z else(k:Int)):=by
     show _=_;rw[←Zaq hpl,←HQ.out];rfl
    generalize L[k].depth=E at *;by_cases hDE:D≤E
    · have HQ2:Hid (Zbc L D (k+1)=z):=by show _=_;rw[hst.out,Yam hDE]
      have hdd:decide (E<D)=false:=Yai (by omega)
      clear HQ hst;go_wp2_with fail;go_quiet (fail);go_wp2;go_roundw
      case rel=>exact⟨k+1,z,rfl,by go_num,by omega,HQ2,_,rfl⟩
      case measure=>simp[intOf];omega
    · have HQ2:Hid (Zbc L D (k+1)=(k:Int)):=by show _=_;rw[hst.out,Yab hDE]
      have hdd:decide (E<D)=true:=Yal (by omega)
      clear HQ hst;go_wp2_with fail;go_quiet (fail);go_wp2;go_roundw
      case rel=>exact⟨k+1,k,rfl,by go_num,by omega,HQ2,_,rfl⟩
      case measure=>simp[intOf];omega
  · obtain rfl:k=n:=by omega
    have HE:Hid (Zdd L k=z):=by show _=_;rw[HF.out,HQ.out]
    clear HF HQ;go_wp2;go_ret;exact⟨Zcb HE.out.symm,below_drewN (Yag _ _) _⟩
theorem Zacg (A:Option Addr) (cap:Nat) (L:List Line) (n:Nat) (w:World) (hR:Rd w 3 A L.length (lines L)) (hcap:L.length≤cap) (hc:cap≤maxLen) (hn:n<L.length):
 Calls prog 43 #[.slice A L.length cap, .int .i64 n] w fun e w'=>e= .returned (.int .i64 (endB L n:Nat))∧Below w.heap.size w w':=by
 have hlen:L.length≤maxLen:=by omega
 have HR:=Zhd hR;unfold maxLen at hc hlen;obtain⟨B,O,rfl,hab,hadd,x0,-,-⟩:=hR.line hn;have hDn:Hid (Zaj L n=L[n].depth):=Zaq hn;obtain⟨D,hD⟩: ∃ D,L[n].depth=D:=⟨_,rfl⟩;rw[hD]at x0;have hDD:Hid (endB L n=Zcp L D (n+1)):=by show _=_;unfold endB;rw[hDn.out,hD]
 clear hR hD hDn;go_enter func43,ntmps43;go_wp2;go_loopw [5] (fun vk wr=> ∃ k:Nat,vk= .int .i64 k∧n<k∧k≤L.length∧Hid (Zcp L D (n+1)=Zcp L D k)∧ ∃ q,wr=w.drewN q) (fun vk _=>L.length-(intOf vk).toNat)
 case atStart=>exact⟨n+1,by go_num,by omega,by omega,rfl,0,rfl⟩
 case round=>
  obtain⟨k,rfl,hnk,hk,HQ,q,rfl⟩:=hrel;by_cases hlt:k<L.length
  · obtain⟨B',O',hA',-,hadd',y0,-,-⟩:=HR.out.line hlt;injection hA' with hA'
    injection hA' with hBB hOO
    subst hBB hOO;have hgo:Hid (D<L[k].depth→Zcp L D (n+1)=Zcp L D (k+1)):=fun hd=>HQ.out.trans (Zlg hlt hd)
    have hno:Hid (¬ D<L[k].depth→endB L n=k):=fun hd=>hDD.out.trans (HQ.out.trans (Zlh hlt hd))
    generalize L[k].depth=E at *;by_cases hDE:D<E
    · have HQ2:=Zhd (hgo.out hDE);have hdd:decide (E≤D)=false:=Yai (by omega)
      clear HQ hgo hno hDD;go_wp2_with fail;go_quiet (fail);go_wp2;go_roundw
      case rel=>exact⟨k+1,by go_num,by omega,by omega,HQ2,_,rfl⟩
      case measure=>simp[intOf];omega
    · have HF:=Zhd (hno.out hDE);have hdd:decide (E≤D)=true:=Yal (by omega)
      clear HQ hgo hno hDD;go_wp2_with fail;go_quiet (fail);go_wp2;go_ret;exact⟨Zcb (by simp[HF.out]),below_drewN (below_drewN (Yag _ _) _) _⟩
  · obtain rfl:k=L.length:=by omega
    have HF:Hid (endB L n=L.length):=hDD.out.trans (HQ.out.trans Zno);clear HQ hDD;go_wp2;go_ret;exact⟨Zcb (by simp[HF.out]),below_drewN (Yag _ _) _⟩
theorem Zach (A:Option Addr) (cap:Nat) (P:List ByteArray) (A2:Option Addr) (cap2:Nat) (Q:List ByteArray) (w:World) (hP:Rd w 1 A P.length (sv P)) (hQ:Rd w 1 A2 Q.length (sv Q)) (hp:P.length≤maxLen) (_hq:Q.length≤maxLen):
 Calls prog 28 #[.slice A P.length cap, .slice A2 Q.length cap2] w fun e w'=>e= .returned (.bool (decide (P=Q)))∧Below w.heap.size w w':=by
 have HP:=Zhd hP;have HQ:=Zhd hQ;clear hP hQ;unfold maxLen at hp _hq;go_enter func28,ntmps28;by_cases hl:P.length=Q.length
 · have hl2:((P.length:Int)==(Q.length:Int))=true:=by rw[beq_iff_eq,hl]
   go_wp2;go_loopw [5] (fun vk wr=> ∃ k:Nat,vk= .int .i64 k∧k≤P.length∧Hid (P.take k=Q.take k)∧ ∃ q,wr=w.drewN q) (fun vk _=>P.length-(intOf vk).toNat)
   case atStart=>exact⟨0,rfl,by omega,(show P.take 0=Q.take 0 by simp),0,rfl⟩
   case round=>
    obtain⟨k,rfl,hk,HT,q,rfl⟩:=hrel;by_cases hlt:k<P.length
    · obtain⟨B,O,rfl,hab,hadd,x0⟩:=HP.out.strAt hlt;have hlt2:k<Q.length:=by omega
      obtain⟨B',O',rfl,hab',hadd',y0⟩:=HQ.out.strAt hlt2;cases he:P[k].toList==Q[k].toList with
      | true=>
        have hpq:P[k]=Q[k]:=by
         exact Zvt (beq_iff_eq.1 he)
        have HT2:Hid (P.take (k+1)=Q.take (k+1)):=by
         show _=_;rw[List.take_add_one,List.take_add_one,HT.out,Yaj hlt,Yaj hlt2,hpq]
        clear HT hpq;go_wp2_with fail;go_quiet (fail);go_wp2;go_roundw
        case rel=>exact⟨k+1,by go_num,by omega,HT2,_,rfl⟩
        case measure=>simp[intOf];omega
      | false=>
        have hne:Hid (decide (P=Q)=false):=Yai (fun e=>by
         have h1:P[k]=Q[k]:=by simp[e]
         rw[h1]at he;simp at he)
        clear HT;go_wp2_with fail;go_quiet (fail);go_wp2;go_ret;exact⟨Zah (by rw[hne.out]),below_drewN (below_drewN (Yag _ _) _) _⟩
    · have HE:Hid (decide (P=Q)=true):=Yal (by
       have:=HT.out
       rwa [Ybh (by omega),Ybh (by omega)]at this)
      go_wp2;go_ret;exact⟨Zah (by rw[HE.out]),below_drewN (Yag _ _) _⟩
 · have hl2:((P.length:Int)==(Q.length:Int))=false:=by rw[Yak];omega
   have hne:Hid (decide (P=Q)=false):=Yai (fun e=>hl (by rw[e]))
   go_wp2;go_ret;exact⟨Zah (by rw[hne.out]),Yag _ _⟩
theorem Zasa (A:Option Addr) (cap:Nat) (L:List ByteArray) (w:World) (hR:Rd w 1 A L.length (sv L)) (_hcap:L.length≤cap) (_hc:cap≤maxLen):
 Calls prog 19 #[.slice A L.length cap] w fun e w'=>e= .returned (.bool (Zjm L))∧Below w.heap.size w w':=by
 have HR:=Zhd hR;have HX:Hid (Zjm L=(decide (L.length≤40)&&L.all fun l=>decide (l.size≤100))):=rfl
 clear hR;unfold maxLen at _hc;go_enter func19,ntmps19;by_cases h1:40<L.length
 · have hz:(40:Int)<(L.length:Int):=by omega
   have HF:Hid (Zjm L=false):=by show _=_;rw[HX.out,Yai (by omega)];rfl
   go_wp2;go_ret;exact⟨Zah (by rw[HF.out]),Yag _ _⟩
 · have hz: ¬ (40:Int)<(L.length:Int):=by omega
   have HX2:Hid (Zjm L=L.all fun l=>decide (l.size≤100)):=by show _=_;rw[HX.out,Yal (by omega),Ydw]
   clear HX;go_wp2;go_loopw [3] (fun vk wr=> ∃ k:Nat,vk= .int .i64 k∧k≤L.length∧Hid (Zjm L=(L.drop k).all fun l=>decide (l.size≤100))∧wr=w) (fun vk _=>L.length-(intOf vk).toNat)
   case atStart=>exact⟨0,rfl,by omega,HX2,rfl⟩
   case round=>
    clear HX2;obtain⟨k,rfl,hk,HQ,rfl⟩:=hrel;by_cases hlt:k<L.length
    · obtain⟨B,O,rfl,hab,hadd,x1⟩:=HR.out.strAt hlt
      have hst:Hid (Zjm L=(decide (L[k].size≤100)&&(L.drop (k+1)).all fun l=>decide (l.size≤100))):=by
       show _=_;rw[HQ.out,Yaz hlt,Ydd]
      clear HQ;generalize L[k]=x at *;by_cases hx:100<x.size
      · have hz2:(100:Int)<(x.size:Int):=by omega
        have HF:Hid (Zjm L=false):=by show _=_;rw[hst.out,Yai (by omega)];rfl
        clear hst;go_wp2;go_ret;exact⟨Zah (by rw[HF.out]),Yag _ _⟩
      · have hz2: ¬ (100:Int)<(x.size:Int):=by omega
        have HQ2:Hid (Zjm L=(L.drop (k+1)).all fun l=>decide (l.size≤100)):=by show _=_;rw[hst.out,Yal (by omega),Ydw]
        clear hst;go_wp2_with fail;go_roundw
        case rel=>exact⟨k+1,by go_num,by omega,HQ2,by first|rfl|trivial⟩
        case measure=>simp[intOf];omega
    · have HF:Hid (Zjm L=true):=by show _=_;rw[HQ.out,Ybe (by omega)];rfl
      clear HQ;go_wp2;go_ret;exact⟨Zah (by rw[HF.out]),Yag _ _⟩
end Go.Proofs.Zq
namespace Tre
open Go
def Zwp (L:List Line) (P:List ByteArray) (k:Nat):Bool:=decide (Zaj L k=(P.length:Int)-1)&&decide (Zdg L k=P)
def Zcs (L:List Line) (P:List ByteArray) (k:Nat):Nat→Int
 |0=> -1
 |n+1=>if Zwp L P k then(k:Int)else Zcs L P (k+1) n
def Zcj (L:List Line) (P:List ByteArray):Int:=Zcs L P 0 L.length
end Tre
namespace Go.Proofs.Zq
open Tryz
open Go Go.RowKit Go.Sort Tre
theorem Zbdf (w:World) (base:Nat) (T:TypeId) (size:Nat) (hb:base≤w.heap.size):(w.alloc (.cells #[] T)).ownsRow base T size (.slice (some ⟨w.heap.size,0,none⟩) 0 0) 0 []:=by
 have:=World.ownsRow_lit (e:=T) (size:=size) (base:=base) w #[] 0 hb (by unfold maxLen;omega) (by simp)
 simpa using this
theorem Zxh {P:Program} {ops:Array Oper} {rest:List Oper} {o:Oper} {a:Act} {Q:Exit→Act→World→Prop} (hgd:o.guard=none) (s x:Operand) (t:TypeId)
 (ho:o.op= .call {callee:= .builtin .append,args:= #[s,x],argTypes:= #[t,t]})
 (w0 wr:World) (e:TypeId) (i:TypeInfo) (z:Value) (size bytes:Nat) (ht:P.underlying t=some (.slice e)) (hi:P.info? e=some i) (hz:i.zero=some z)
 (hsize:i.size=size) (hby:i.bytes=bytes) (hzs:z.cells.size=size) (hsz:0<size) (hb64:bytes≤64)
 {v:Value} {n:Nat} {xs:List Value} (hown:wr.ownsRow w0.heap.size e size v n xs) (hb:Below w0.heap.size w0 wr) (hs:a.eval s=v)
 (A:Option Addr) (m c:Nat) (news:List Value) (hx:a.eval x= .slice A m c) (hR:Rd wr size A m news) (hnil:A=none→c=0) (h1: ∀ u∈news,u.oneCell'=true)
 (hN:n+m≤1000000000)
 (h: ∀ v' w',w'.ownsRow w0.heap.size e size v' (n+m) (xs++news)→Below w0.heap.size w0 w'→wpList P ops Q rest (a.put o.dst v') w'):
 wpList P ops Q (o::rest) a wr:=by
 have hbytes:(n+m)*bytes≤140737488355328:=Yat (Ydj hN hb64) (by decide)
 rcases A with _|ad
 · have hm:m=0:=by
    rcases Ybj m with h0|h0
    · exact h0
    · obtain⟨ad,h,-⟩:=hR.2 h0;cases h
   subst hm;have hn:news= []:=Yap (by simpa using hR.1)
   subst hn;obtain rfl:=hnil rfl;exact wpList_append_own_none hgd s x t ho w0.heap.size e i size ht hi v n xs hs hown hx (h v wr (by simpa using hown) hb)
 · refine wpList_append_own _ hgd s x t ho w0.heap.size e i z size bytes ht hi hz hsize hby hzs hsz v n xs hs hown ad m c news hx hR.1 ?_ h1 (by unfold maxLen;omega) hbytes hb.size ?_
   · intro j u hu;obtain⟨ad',e',-,hc⟩:=hR.cell hu;injection e' with e'
     subst e';exact hc
   · intro v' w' hown' hg _;exact h v' w' hown' (hb.grown hg hb.size fun q hq=>(hown.lt q hq).1)
theorem Zcr {w:World} {base:Nat} {e:TypeId} {k:Nat} {v:Value} {n:Nat} {xs:List Value} (h:w.ownsRow base e k v n xs): ∃ A c,v= .slice A n c∧n≤c∧c≤maxLen∧Rd w k A n xs∧((A=none→c=0)∧Zd A):=by
 rcases h.2 with⟨rfl,rfl⟩|⟨g,cap,cur,rfl,hg,hh,hnc,hcm,hsz,ht⟩
 · exact⟨none,0,rfl,Yaf _,by unfold maxLen;omega,Rd.of_own (base:=base) (e:=e) (c:=0) h,fun _=>rfl,Zati⟩
 · exact⟨some ⟨g,0,none⟩,cap,rfl,hnc,hcm,Rd.of_own h,(fun h=>by cases h),Zatj g⟩
theorem Zkc {w:World} {base b2:Nat} {e:TypeId} {k:Nat} {v:Value} {n:Nat} {xs:List Value} (h:w.ownsRow base e k v n xs) (hb:b2≤base):w.ownsRow b2 e k v n xs:=
 ⟨h.1,h.2.imp id fun⟨g,cap,cur,h1,h2,h3⟩=>⟨g,cap,cur,h1,Yat hb h2,h3⟩⟩
def Zsf (w:World) (P:List ByteArray) (e:Ending) (w':World):Prop:=
 ∃ A c,e= .returned (.slice A P.length c)∧P.length≤c∧c≤maxLen∧Rd w' 1 A P.length (sv P)∧((A=none→c=0)∧Zd A)∧Below w.heap.size w w'
theorem Zze (A:Option Addr) (cap:Nat) (L:List Line) (n:Nat) (w:World) (hR:Rd w 3 A L.length (lines L)) (hcap:L.length≤cap) (hc:cap≤maxLen) (h300:L.length≤300) (hn:n<L.length):
 Calls prog 29 #[.slice A L.length cap, .int .i64 n] w (Zsf w (Zdg L n)):=by
 obtain⟨i0,hi,hz0,hz1,hz2⟩:=info_parts Zei;have HU:Hid (∀ (k:Nat) W,Below w.heap.size w W→k<L.length→Calls prog 48 #[.slice A L.length cap, .int .i64 k] W fun e w'=>e= .returned (.int .i64 (Zdd L k))∧Below W.heap.size W w'):=fun k W hb hk=>Zvk A cap L k W (hR.below hb) hcap hc hk
 have HP0:Hid (Zdg L n=(ups L (n+1)).reverse++ []):=by show _=_;rw[Ybg];rfl
 have HR:=Zhd hR;unfold maxLen at hc;clear hR;go_enter func29,ntmps29;go_wp2;go_loopw [1,5] (fun vk v wr=> ∃ (k:Nat) (z:Int) (O:List ByteArray),vk= .int .i64 z∧z+1=(k:Int)∧k≤n+1∧Hid (Zdg L n=(ups L k).reverse++O)∧O.length+k≤n+1∧wr.ownsRow w.heap.size 9 1 v O.length (sv O)∧Below w.heap.size w wr) (fun vk _ _=>(intOf vk+1).toNat)
 case atStart=>exact⟨n+1,n,[],rfl,by omega,by omega,HP0,by simp,World.ownsRow_nil _ _ _ _,Yag _ _⟩
 case round=>
  clear HP0;obtain⟨k,z,O,rfl,hzk,hk,HQ,hO,hown,hb⟩:=hrel;obtain⟨A',c,rfl,hc1,hc2,hRd,hnz⟩:=Zcr hown;have hnil:=hnz.1;by_cases hk0:k=0
  · have hz:z= -1:=by omega
    subst hz
    have HF:Hid (O=Zdg L n):=by
     show _=_;rw[HQ.out,hk0,Zpv];rfl
    have K:Hid (Zsf w (Zdg L n) (.returned (.slice A' O.length c)) wr):=by
     rw[←HF.out];exact⟨A',c,rfl,hc1,hc2,hRd,hnz,hb⟩
    clear HQ hzk HU HR HF hown hRd hb hc1 hc2 hnil hnz;go_wp2;go_ret;exact K.out
  · obtain⟨p,rfl⟩: ∃ p,k=p+1:=⟨k-1,by omega⟩
    obtain rfl:z=(p:Int):=by omega
    have hpl:p<L.length:=by omega
    obtain⟨B,Of,rfl,hab,hadd,-,x1,-⟩:=(HR.out.below hb).line hpl
    have hst:Hid (ups L (p+1)=L[p].word::ups L (Zdd L p+1).toNat):=by
     show _=_;rw[Zkk,Zbe hpl]
    have hul:=Zhs L p;have HUp:=Zhd (fun W hb=>HU.out p W hb hpl)
    generalize L[p].word=x at *;generalize Zdd L p=u at *
    have HQ2:Hid (Zdg L n=(ups L (u+1).toNat).reverse++([x]++O)):=by
     show _=_;rw[HQ.out,hst.out,List.reverse_cons,Ybc]
    have hbA: ∀ W,Below wr.heap.size wr W→Rd W 1 A' O.length (sv O):=fun W h=>hRd.below h
    clear HQ hst HU hown hnz;go_wp2_with (at_builtin;first|(refine Zxh rfl _ _ 34 rfl wr w1 9 i0 _ 1 16 underlying34 hi hz0 hz1 hz2 rfl (by decide) (by decide) hown1 hb1 rfl A' O.length c (sv O) rfl (hbA _ hb1) hnil (Zbhg O) (by omega) ?_;intro v2 w2 hown2 hb2)|(refine Zfv rfl _ _ 34 rfl wr wr 9 i0 _ 1 16 underlying34 hi hz0 hz1 hz2 rfl (by decide) (by decide) (World.ownsRow_nil _ _ _ _) (Yag _ _) rfl 1 1 [.string x] rfl rfl (by simp;rfl) (by omega) ?_;intro v1 w1 hown1 hb1))
    have hb3:=Zaa hb hb2;refine(HUp.out _ hb3).mono ?_;rintro e w3 ⟨rfl,hb4⟩
    have hown3:w3.ownsRow w.heap.size 9 1 v2 ([x]++O).length (sv ([x]++O)):=by
     have h:=Zai (Zkc hown2 hb.size) hb4;rw[show 0+1+O.length=([x]++O).length by simp;omega]at h
     exact h
    have hb5:=Zaa hb3 hb4;clear hb hbA hown1 hb1 hown2 hb2 hb3 hb4 HUp x1 hadd hab hRd hnil hc1 hc2;go_wp2_with fail;go_roundw
    case rel=>
     refine⟨(u+1).toNat,u,[x]++O,rfl,by omega,by omega,HQ2,by simp;omega, ?_⟩
     first|exact⟨hown3,hb5⟩|exact hown3
    case measure=>simp[intOf];omega
theorem Zzd (A:Option Addr) (cap:Nat) (L:List Line) (Ap:Option Addr) (cp:Nat) (P:List ByteArray) (w:World) (hR:Rd w 3 A L.length (lines L)) (hcap:L.length≤cap) (hc:cap≤maxLen) (h300:L.length≤300) (hP:Rd w 1 Ap P.length (sv P)) (hcp:P.length≤maxLen):
 Calls prog 16 #[.slice A L.length cap, .slice Ap P.length cp] w fun e w'=>e= .returned (.int .i64 (Zcj L P))∧Below w.heap.size w w':=by
 have HPa:Hid (∀ (k:Nat) W,Below w.heap.size w W→k<L.length→Calls prog 29 #[.slice A L.length cap, .int .i64 k] W (Zsf W (Zdg L k))):=fun k W hb hk=>Zze A cap L k W (hR.below hb) hcap hc h300 hk
 have HEq:Hid (∀ (A2:Option Addr) (c2:Nat) (Q:List ByteArray) W,Below w.heap.size w W→Q.length≤maxLen→Rd W 1 A2 Q.length (sv Q)→Calls prog 28 #[.slice A2 Q.length c2, .slice Ap P.length cp] W fun e w'=>e= .returned (.bool (decide (Q=P)))∧Below W.heap.size W w'):=fun A2 c2 Q W hb hq hQ=>Zach A2 c2 Q Ap cp P W hQ (hP.below hb) hq hcp
 have HR:=Zhd hR;have HX:Hid (Zcj L P=Zcs L P 0 (L.length-0)):=rfl;unfold maxLen at hc hcp;clear hR hP;go_enter func16,ntmps16;go_wp2;go_loopw [5] (fun vk wr=> ∃ k:Nat,vk= .int .i64 k∧k≤L.length∧Hid (Zcj L P=Zcs L P k (L.length-k))∧Below w.heap.size w wr) (fun vk _=>L.length-(intOf vk).toNat)
 case atStart=>exact⟨0,rfl,by omega,HX,Yag _ _⟩
 case round=>
  clear HX;obtain⟨k,rfl,hk,HQ,hb⟩:=hrel;by_cases hlt:k<L.length
  · obtain⟨B,Of,rfl,hab,hadd,x0,-,-⟩:=(HR.out.below hb).line hlt
    have hst:Hid (Zcj L P=if Zwp L P k then(k:Int)else Zcs L P (k+1) (L.length-(k+1))):=by
     show _=_;rw[HQ.out,show L.length-k=(L.length-(k+1))+1 by omega];rfl
    have HH:Hid (Zwp L P k=(decide (L[k].depth=(P.length:Int)-1)&&decide (Zdg L k=P))):=by show _=_;rw[←Zaq hlt];rfl
    have HPk:=Zhd (fun W hb=>HPa.out k W hb hlt)
    have hpl:=Zaca L k;generalize L[k].depth=x at *;by_cases hx:x=(P.length:Int)-1
    · have hxb:(x==(P.length:Int)-1)=true:=by rw[beq_iff_eq];exact hx
      have HH2:Hid (Zwp L P k=decide (Zdg L k=P)):=by show _=_;rw[HH.out,Yal hx];rfl
      have hst2:Hid (Zcj L P=if decide (Zdg L k=P)then(k:Int)else Zcs L P (k+1) (L.length-(k+1))):=by show _=_;rw[hst.out,HH2.out]
      have HB:=Zhd hb;clear hx HH HQ HH2 hst HPa hb;generalize Zdg L k=pk at *;go_wp2_with fail;refine(HPk.out _ HB.out).mono ?_;rintro e w2 ⟨A2,c2,rfl,hc1,hc2,hRd,-,hb2⟩;have hb3:=Zaa HB.out hb2;have hEq:=Zhd (HEq.out A2 c2 pk w2 hb3 (by omega) hRd)
      have HB3:=Zhd hb3;clear HPk HB hb2 hRd hb3 x0;go_wp2_with fail;refine hEq.out.mono ?_;rintro e w3 ⟨rfl,hb4⟩;have hb5:=Zaa HB3.out hb4;have HB5:=Zhd hb5;clear hEq HB3 hb4 hb5;cases hd:decide (pk=P)with
      | true=>
        have HF:Hid (Zcj L P=(k:Int)):=by show _=_;rw[hst2.out,hd];rfl
        clear hst2 hd;go_wp2;go_ret;exact⟨Zcb HF.out.symm,HB5.out⟩
      | false=>
        have HF:Hid (Zcj L P=Zcs L P (k+1) (L.length-(k+1))):=by show _=_;rw[hst2.out,hd];rfl
        clear hst2 hd;go_wp2_with fail;go_roundw
        case rel=>exact⟨k+1,by go_num,by omega,HF,HB5.out⟩
        case measure=>simp[intOf];omega
    · have hxb:(x==(P.length:Int)-1)=false:=by rw[Yak];exact hx
      have HF:Hid (Zcj L P=Zcs L P (k+1) (L.length-(k+1))):=by show _=_;rw[hst.out,HH.out,Yai hx];rfl
      have HB:=Zhd hb;clear hx HH HQ hst HPa hb HPk HEq;go_wp2_with fail;go_roundw
      case rel=>exact⟨k+1,by go_num,by omega,HF,HB.out⟩
      case measure=>simp[intOf];omega
  · obtain rfl:k=L.length:=by omega
    have HF:Hid (Zcj L P= -1):=by show _=_;rw[HQ.out,Yel];rfl
    clear HQ;go_wp2;go_ret;exact⟨Zcb HF.out.symm,hb⟩
end Go.Proofs.Zq
namespace Tre
open Go
def Zck (L:List Line) (k:Nat):Line:=match L[k]? with|some l=>l|none=>⟨0,⟨#[]⟩,0⟩
theorem Zcd {L:List Line} {i:Nat} (h:i<L.length):Zck L i=L[i]:=by unfold Zck;rw[Yaj h]
end Tre
namespace Go.Proofs.Zq
open Tryz
open Go Go.RowKit Go.Sort Tre
end Go.Proofs.Zq
namespace Tre
open Go
def nxt (p:List ByteArray) (l:Line):List ByteArray:=p.take l.depth.toNat++ [l.word]
def Zce (p:List ByteArray):List Line→List (List ByteArray)
 | []=> []
 |l::r=>nxt p l::Zce (nxt p l) r
def Zad (L:List Line):List (List ByteArray):=Zce [] L
def Zdm (p:List ByteArray):List Line→Bool
 | []=>true
 |l::r=>Zco l&&decide (l.depth≤(p.length:Int))&&Zdm (nxt p l) r
def Zafl (p:List ByteArray) (l:Line):Bool:=decide (l.depth=(p.length:Int))||Op.bytesLess (p.getD l.depth.toNat ⟨#[]⟩).toList l.word.toList
def Zkj (p:List ByteArray):List Line→Bool
 | []=>true
 |l::r=>Zafl p l&&Zkj (nxt p l) r
theorem Zfd {l:Line} (h:Zco l=true):0≤l.depth∧l.depth<16:=by
 unfold Zco at h;simp only[Yaq,Yao]at h;exact⟨h.1.1.1.1,h.1.1.1.2⟩
theorem Zyw {p:List ByteArray} {l:Line} (h0:0≤l.depth) (h:l.depth≤(p.length:Int)):((nxt p l).length:Int)=l.depth+1:=by
 unfold nxt;rw[Yae,Yah];simp;omega
theorem Zahk (a b:List UInt8):(Op.bytesLess a b||a==b)= !(Op.bytesLess b a):=by
 rw[Proofs.bytesLess_eq,Proofs.bytesLess_eq,Yby];simp only[Yef,Yao,beq_iff_eq,Ydp,decide_eq_false_iff_not];constructor
 · rintro(h|rfl) h2
   · exact Yev a (List.lt_trans h h2)
   · exact Yev a h2
 · intro h;rcases List.le_iff_lt_or_eq.1 (List.not_lt.1 h)with h|h
   · exact .inl h
   · exact .inr h
theorem Zagv: ∀ {L:List Line} {p:List ByteArray} {la:Nat→ByteArray},(∀ (j:Nat) (h:j<p.length),la j=p[j])→Zea ((p.length:Int)-1) la L=(Zdm p L&&Zkj p L)
 | [],p,la,h=>rfl
 | l :: r,p,la,h=>by
   unfold Zea rgOk Zdm Zkj Zafl;cases hs:Zco l with
   |false=>simp
   | true =>
     obtain⟨d0,d1⟩:=Zfd hs;by_cases hd:l.depth≤(p.length:Int)
     · rw [Yal (p:=l.depth≤(p.length:Int)-1+1) (by omega),Yal hd]
       have hn:=Zyw d0 hd
       have ih:=Zagv (L:=r) (p:=nxt p l) (la:=put la l.depth l.word) (fun j hj=>by
        unfold put nxt at *;rw[Yae,Yah]at hj;simp only[Ybz]at hj;by_cases e:j=l.depth.toNat
        · rw[Yam e,Yep (by rw[Yah];omega)]
          simp
        · rw[Yab e,Ydq (by rw[Yah];omega),Ycs]
          exact h j (by omega))
       rw[show((nxt p l).length:Int)-1=l.depth by omega]at ih
       rw[ih];by_cases he:l.depth=(p.length:Int)
       · rw[Yai (p:=l.depth≤(p.length:Int)-1) (by omega),Yal he]
         simp
       · have hlt:l.depth.toNat<p.length:=by omega
         rw[Yal (p:=l.depth≤(p.length:Int)-1) (by omega),Yai he,h _ hlt]
         have:p.getD l.depth.toNat ⟨#[]⟩=p[l.depth.toNat]:=by rw[Yar,Yaj hlt];rfl
         rw[this];unfold leB;rw[Zahk];cases Op.bytesLess p[l.depth.toNat].toList l.word.toList<;>simp
     · rw[Yai (p:=l.depth≤(p.length:Int)-1+1) (by omega),Yai hd]
       simp
theorem Zue (L:List Line):Zab L=(decide (L.length≤200)&&(Zdm [] L&&Zkj [] L)):=by
 unfold Zab;rw[←Zagv (L:=L) (p:= []) (la:=fun _=>⟨#[]⟩) (fun j h=>by simp at h)]
 rfl
theorem Zfq: ∀ (p:List ByteArray) (L:List Line),(Zce p L).length=L.length
 |_,[]=>rfl
 |p,l::r=>by unfold Zce;rw[Ybd,Ybd,Zfq]
theorem Zaf (L:List Line):(Zad L).length=L.length:=Zfq _ _
theorem Zcy: ∀ {p:List ByteArray} {L:List Line},Zdm p L=true→ ∀ (i:Nat) (h:i<L.length),Zco L[i]=true∧((Zce p L)[i]'(by rw[Zfq];exact h)).length=L[i].depth.toNat+1∧0≤L[i].depth
 |_,[],_,i,h=>absurd h (by simp)
 | p,l::r,hd,i,h=>by
   unfold Zdm at hd;simp only[Yaq,Yao]at hd;obtain⟨d0,d1⟩:=Zfd hd.1.1;cases i with
   | zero=>
     have:=Zyw d0 hd.1.2;exact⟨hd.1.1,by simp only[Zce,Yew];omega,d0⟩
   |succ i=>simpa[Zce]using Zcy hd.2 i (by simpa using h)
theorem Zij: ∀ (p:List ByteArray) (L:List Line) (i:Nat) (h:i+1<L.length),(Zce p L)[i+1]'(by rw[Zfq];exact h)=nxt ((Zce p L)[i]'(by rw[Zfq];omega)) L[i+1]
 |p,[],i,h=>absurd h (by simp)
 | p,l::r,0,h=>by
   cases r with
   |nil=>simp at h
   |cons a r=>rfl
 |p,l::r,i+1,h=>by simpa[Zce]using Zij (nxt p l) r i (by simpa using h)
theorem Zle: ∀ {p:List ByteArray} {L:List Line},Zdm p L=true→ ∀ (i:Nat) (h:i+1<L.length),L[i+1].depth≤L[i].depth+1
 |_,[],_,i,h=>absurd h (by simp)
 | p,l::r,hd,0,h=>by
   unfold Zdm at hd;simp only[Yaq,Yao]at hd;obtain⟨d0,d1⟩:=Zfd hd.1.1;cases r with
   |nil=>simp at h
   | cons a r=>
     have h2:=hd.2;unfold Zdm at h2;simp only[Yaq,Yao]at h2;have:=Zyw d0 hd.1.2;show a.depth≤l.depth+1;omega
 | p,l::r,hd,i+1,h=>by
   unfold Zdm at hd;simp only[Yaq,Yao]at hd;simpa using Zle hd.2 i (by simpa using h)
theorem Zaam {L:List Line} (hd:Zdm [] L=true) (h:0<L.length):L[0].depth=0:=by
 cases L with
 |nil=>simp at h
 | cons l r=>
   unfold Zdm at hd;simp only[Yaq,Yao]at hd;obtain⟨d0,d1⟩:=Zfd hd.1.1;have:=hd.1.2;simp at this;show l.depth=0;omega
def pa (L:List Line) (i:Nat):List ByteArray:=(Zad L).getD i []
theorem Zfu {L:List Line} {i:Nat} (h:i<L.length):pa L i=(Zad L)[i]'(by rw[Zaf];exact h):=by
 unfold pa;rw[Yar,Yaj (by rw[Zaf];exact h)];rfl
section
variable {L:List Line} (hd:Zdm [] L=true)
include hd
theorem Zcf {i:Nat} (h:i<L.length):0≤Zaj L i∧Zaj L i<16:=by
 rw[Zaq h];exact Zfd (Zcy hd i h).1
theorem Zbz {i:Nat} (h:i<L.length):(pa L i).length=(Zaj L i).toNat+1:=by
 rw[Zfu h,Zaq h];exact(Zcy hd i h).2.1
theorem Zmj {i:Nat} (h:i+1<L.length):Zaj L (i+1)≤Zaj L i+1:=by
 rw[Zaq h,Zaq (by omega)];exact Zle hd i h
omit hd in
theorem Zkg {i:Nat} (h:i+1<L.length):pa L (i+1)=(pa L i).take (Zaj L (i+1)).toNat++ [Zbd L (i+1)]:=by
 rw[Zfu h,Zfu (by omega:i<L.length),Zaq h,Zbe h]
 exact Zij [] L i h
theorem dep_zero (h:0<L.length):Zaj L 0=0:=by rw[Zaq h];exact Zaam hd h
theorem Ztx (h:0<L.length):pa L 0= [Zbd L 0]:=by
 rw[Zfu h,Zbe h];cases L with
 |nil=>simp at h
 |cons l r=>simp[Zad,Zce,nxt]
theorem Ztw {D:Nat} {i:Nat}: ∀ {k:Nat},i≤k→k<L.length→(∀ m,i<m→m≤k→(D:Int)≤Zaj L m)→(pa L k).take D=(pa L i).take D:=by
 intro k
 induction k with
 |zero=>intro h1 h2 _;rw[show i=0 by omega]
 | succ k ih=>
   intro h1 h2 h3;by_cases e:i=k+1
   · rw[e]
   · rw[Zkg h2];have hk:=ih (by omega) (by omega) (fun m a b=>h3 m a (by omega))
     have hD:=h3 (k+1) (by omega) (Yaf _)
     have hs:=Zmj hd h2;have hl:=Zbz hd (by omega:k<L.length)
     have hn:=Zcf hd (by omega:k<L.length)
     rw[Yce (by rw[Yah];omega),Ycl,Yba (by omega)]
     exact hk
theorem Zazx {D:Nat} (hD:1≤D): ∀ {k:Nat},0<k→k≤L.length→(D:Int)≤Zaj L (k-1)+1→
 ∃ j,j<k∧Zbc L D k=(j:Int)∧Zaj L j=(D:Int)-1∧(∀ m,j<m→m<k→(D:Int)≤Zaj L m)∧pa L j=(pa L (k-1)).take D:=by
 intro k
 induction k with
 |zero=>intro h;omega
 | succ k ih=>
   intro _ h2 h3;simp only[Yez]at h3⊢;unfold Zbc;by_cases h:(D:Int)≤Zaj L k
   · rw[Yam h];have hk0:k≠0:=by
      rintro rfl;rw[dep_zero hd (by omega)]at h
      omega
     have hs:=Zmj hd (i:=k-1) (by omega)
     rw[show k-1+1=k by omega]at hs
     obtain⟨j,a,b,c,d,e⟩:=ih (by omega) (by omega) (by omega)
     refine⟨j,by omega,b,c,fun m x y=> ?_, ?_⟩
     · rcases Ybp m k with hm|hm
       · exact d m x hm
       · rw[show m=k by omega];exact h
     · rw[e];exact(Ztw hd (D:=D) (i:=k-1) (k:=k) (by omega) (by omega) (fun m x y=>by rw[show m=k by omega];exact h)).symm
   · rw[Yab h];have hl:=Zbz hd (by omega:k<L.length)
     have hn:=Zcf hd (by omega:k<L.length)
     exact⟨k,by omega,rfl,by omega,fun m x y=>by omega,by rw[Ybh (by omega)]⟩
theorem Zama {i:Nat} (h0:Zaj L i=0): ∀ k,k≤L.length→Zbc L (Zaj L i) k= -1:=by
 intro k
 induction k with
 |zero=>intro _;rfl
 | succ k ih=>
   intro h;unfold Zbc;rw[Yam (by rw[h0];exact(Zcf hd (by omega:k<L.length)).1)]
   exact ih (by omega)
theorem up_of {i:Nat} (h:i<L.length) (h0:Zaj L i≠0): ∃ j,j<i∧Zdd L i=(j:Int)∧Zaj L j=Zaj L i-1∧(∀ m,j<m→m≤i→Zaj L i≤Zaj L m)∧pa L i=pa L j++ [Zbd L i]:=by
 have hn:=Zcf hd h;have hi0:i≠0:=by rintro rfl;exact h0 (dep_zero hd h)
 have hs:=Zmj hd (i:=i-1) (by omega)
 rw[show i-1+1=i by omega]at hs
 obtain⟨D,hD⟩: ∃ D:Nat,Zaj L i=(D:Int):=⟨(Zaj L i).toNat,by omega⟩
 obtain⟨j,a,b,c,d,e⟩:=Zazx hd (D:=D) (by omega) (k:=i) (by omega) (by omega) (by omega)
 refine⟨j,a,by unfold Zdd;rw[hD];exact b,by omega,fun m x y=> ?_, ?_⟩
 · rcases Ybp m i with hm|hm
   · rw[hD];exact d m x hm
   · rw[show m=i by omega];exact Int.le_refl _
 · have:=Zkg (L:=L) (i:=i-1) (by omega)
   rw[show i-1+1=i by omega,hD,Ybr]at this
   rw[this,e]
theorem Zkh: ∀ {i:Nat},i<L.length→Zdg L i=pa L i:=by
 intro i
 induction i using Nat.strongRecOn with
 | ind i ih=>
   intro h;by_cases h0:Zaj L i=0
   · rw[Zaqt L i (by unfold Zdd;exact Zama hd h0 i (by omega))]
     rcases Ybj i with rfl|hp
     · exact(Ztx hd h).symm
     · have:=Zkg (L:=L) (i:=i-1) (by omega)
       rw[show i-1+1=i by omega,h0]at this
       rw[this];rfl
   · obtain⟨j,a,b,c,d,e⟩:=up_of hd h h0;rw[Zaqs L i j b,ih j a (by omega),e]
theorem Zqi {i:Nat}: ∀ {q:Nat},i<L.length→1≤q→q≤(pa L i).length→ ∃ m,m≤i∧pa L m=(pa L i).take q:=by
 induction i using Nat.strongRecOn with
 | ind i ih=>
   intro q h h1 h2;by_cases hq:q=(pa L i).length
   · exact⟨i,Yaf _,by rw[hq,Ybw]⟩
   · by_cases h0:Zaj L i=0
     · have:=Zbz hd h;rw[h0]at this;simp at this;omega
     · obtain⟨j,a,b,c,d,e⟩:=up_of hd h h0;have hl:(pa L i).length=(pa L j).length+1:=by rw[e];simp
       obtain⟨m,hm,hm2⟩:=ih j a (q:=q) (by omega) h1 (by omega)
       exact⟨m,by omega,by rw[hm2,e,Yce (by omega)]⟩
end
def key (p:List ByteArray):List (List UInt8):=p.map (·.toList)
def pLt (a b:List ByteArray):Prop:=key a<key b
theorem Zlc {a b:ByteArray} (h:a.toList=b.toList):a=b:=ByteArray.ext (Yec.1 (by rwa [Lib.toList_data,Lib.toList_data]at h))
theorem Zby (a:List ByteArray): ¬ pLt a a:=Yev _
theorem Zcl {a b c:List ByteArray} (h:pLt a b) (k:pLt b c):pLt a c:=List.lt_trans h k
theorem Zaew (a:ByteArray) (l:List ByteArray):pLt [] (a::l):=List.Lex.nil
theorem Zrw {x:ByteArray} {a b:List ByteArray}:pLt (x::a) (x::b)↔pLt a b:=by
 unfold pLt key;rw[Yej,Yej];constructor
 · intro h;cases h with
   |rel h=>exact absurd h (Yev _)
   |cons h=>exact h
 · exact fun h=>List.Lex.cons h
theorem Zke {x y:ByteArray} {a b:List ByteArray} (h:x.toList<y.toList):pLt (x::a) (y::b):=List.Lex.rel h
theorem Zfh {x y:ByteArray} {a b:List ByteArray}:pLt (x::a) (y::b)↔x.toList<y.toList∨x=y∧pLt a b:=by
 constructor
 · intro h;by_cases e:x=y
   · subst e;exact .inr ⟨rfl,Zrw.1 h⟩
   · have h':(x.toList::key a)<(y.toList::key b):=h;rcases List.cons_lt_cons_iff.1 h' with h'|⟨h',-⟩
     · exact .inl h'
     · exact absurd (Zlc h') e
 · rintro(h|⟨rfl,h⟩)
   · exact Zke h
   · exact Zrw.2 h
theorem Zms (a:List ByteArray) (x:ByteArray) (l:List ByteArray):pLt a (a++x::l):=by
 induction a with
 |nil=>exact Zaew _ _
 |cons y a ih=>exact Zrw.2 ih
theorem Zgi {a b c:List ByteArray}:pLt (a++b) (a++c)↔pLt b c:=by
 induction a with
 |nil=>exact Iff.rfl
 |cons y a ih=>rw[Ycn,Ycn,Zrw,ih]
theorem Zkf (a:List ByteArray): ¬ pLt a []:=by intro h;cases a<;>cases h
theorem Zamw {a b t:List ByteArray} (h1:pLt a b) (h2:pLt b (a++t)∨b=a++t): ∃ s,b=a++s:=by
 induction a generalizing b with
 |nil=>exact⟨b,rfl⟩
 | cons x a ih=>
   cases b with
   |nil=>exact absurd h1 (Zkf _)
   | cons y b=>
     rcases h2 with h2|h2
     · rw[Ycn,Zfh]at h2;rw[Zfh]at h1;rcases h1 with h1|⟨rfl,h1⟩
       · rcases h2 with h2|⟨rfl,h2⟩
         · exact absurd (List.lt_trans h1 h2) (Yev _)
         · exact absurd h1 (Yev _)
       · rcases h2 with h2|⟨-,h2⟩
         · exact absurd h2 (Yev _)
         · obtain⟨s,rfl⟩:=ih h1 (.inl h2);exact⟨s,rfl⟩
     · exact⟨t,h2⟩
theorem Zbgu {p:List ByteArray} {l:Line} (h0:0≤l.depth) (h:l.depth≤(p.length:Int)) (hs:Zafl p l=true):pLt p (nxt p l):=by
 unfold Zafl at hs;unfold nxt;simp only[Yef,Yao]at hs;by_cases e:l.depth=(p.length:Int)
 · rw[e,Ybr,Ybw];exact Zms _ _ _
 · have hlt:l.depth.toNat<p.length:=by omega
   have hb:=hs.resolve_left e;rw[Yar,Yaj hlt,Proofs.bytesLess_eq,Yao]at hb
   conv=>lhs;rw[←Ybk l.depth.toNat p]
   rw[Yaz hlt];exact Zgi.2 (Zke hb)
theorem Zlz: ∀ {L:List Line} {p:List ByteArray},Zdm p L=true→Zkj p L=true→(∀ q∈Zce p L,pLt p q)∧(Zce p L).Pairwise pLt
 | [],p,_,_=>⟨fun q h=>(by cases h),List.Pairwise.nil⟩
 | l::r,p,h1,h2=>by
   unfold Zdm at h1;unfold Zkj at h2;simp only[Yaq,Yao]at h1 h2;obtain⟨d0,d1⟩:=Zfd h1.1.1;have hu:=Zbgu d0 h1.1.2 h2.1;obtain⟨a,b⟩:=Zlz h1.2 h2.2;unfold Zce;refine⟨fun q hq=> ?_,Ycj.2 ⟨a,b⟩⟩
   rcases Yav.1 hq with rfl|hq
   · exact hu
   · exact Zcl hu (a q hq)
end Tre
