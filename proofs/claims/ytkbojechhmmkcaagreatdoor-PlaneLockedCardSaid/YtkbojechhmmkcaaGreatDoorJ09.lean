import Derived.Sort.Walk0
import Derived.Lib.Repeat
import Derived.Lib.SlTrimSet
import Derived.Test.YtkbojechhmmkcaaGreatDoorJ06
set_option linter.unusedVariables false
set_option linter.unusedSimpArgs false
set_option maxHeartbeats 2000000
set_option maxRecDepth 100000
namespace Tre
open Go
def Zeq (P:List ByteArray):Nat→Nat→List Line→Option Nat
 |_,_,[]=>none
 | p,i,l::r=>
   if l.depth<(p:Int)then none
   else if(p:Int)<l.depth then Zeq P p (i+1) r
   else if(l.word.toList==(P.getD p ⟨#[]⟩).toList)=false then Zeq P p (i+1) r
   else if p+1=P.length then some i else Zeq P (p+1) (i+1) r
def Zar (L:List Line) (P:List ByteArray):Option Nat:=if P.length=0∨16<P.length then none else Zeq P 0 0 L
def Zpd (o:Option Nat):Int:=match o with|some i=>(i:Int)|none=>0
theorem Zmw {P:List ByteArray}: ∀ {L:List Line} {p i j:Nat},Zeq P p i L=some j→i≤j∧j<i+L.length
 | [],_,_,_,h=>by cases h
 | l::r,p,i,j,h=>by
   unfold Zeq at h;split at h
   · cases h
   split at h
   · have:=Zmw h;simp;omega
   split at h
   · have:=Zmw h;simp;omega
   split at h
   · cases h;simp
   · have:=Zmw h;simp;omega
theorem Zce {P:List ByteArray} {L:List Line} {j:Nat} (h:Zar L P=some j):j<L.length:=by
 unfold Zar at h;split at h
 · cases h
 · have:=Zmw h;omega
end Tre
namespace Go.Proofs.Zq
open Tryz
open Go Go.RowKit Go.Sort Tre
theorem Zbq (A:Option Addr) (cap:Nat) (L:List Line) (Ap:Option Addr) (cp:Nat) (P:List ByteArray) (w:World) (hR:Rd w 3 A L.length (lines L)) (hcap:L.length≤cap) (hc:cap≤maxLen) (hr:Zab L=true) (hP:Rd w 1 Ap P.length (sv P)) (hcp:P.length≤cp) (_hc2:cp≤maxLen):
 Calls prog 47 #[.slice A L.length cap, .slice Ap P.length cp] w fun e w'=>e= .returned (.tuple #[.int .i64 (Zpd (Zar L P)), .bool (Zar L P).isSome])∧Below w.heap.size w w':=by
 have HC:=Zhd (Zbg A cap L w hR hcap hc);have h200:=Zas hr;have HR:=Zhd hR;have HP:=Zhd hP;have hRt:Hid (Zab L=true):=hr;have HF0:Hid (Zar L P=if P.length=0∨16<P.length then none else Zeq P 0 0 L):=rfl
 unfold maxLen at hc _hc2;clear hR hr hP;go_enter func47,ntmps47;go_wp2_with fail;refine HC.out.mono ?_;rintro e w1 ⟨rfl,hb1⟩;clear HC;rw[hRt.out];by_cases h0:P.length=0
 · have HF:Hid (Zar L P=none):=by show _=_;rw[HF0.out,Yan (.inl h0)]
   clear HF0;have hP0:P= []:=Ycv.1 h0;subst hP0;go_wp2;exact bodyPost_ret (v:= .tuple #[.int .i64 0, .bool false]) (by simp[results,results47,go_sem]) rfl ⟨by rw[HF.out];rfl,hb1⟩
 · by_cases h16 :16<P.length
   · have HF:Hid (Zar L P=none):=by show _=_;rw[HF0.out,Yan (.inr h16)]
     clear HF0;go_wp2;exact bodyPost_ret (v:= .tuple #[.int .i64 0, .bool false]) (by simp[results,results47,go_sem]) rfl ⟨by rw[HF.out];rfl,hb1⟩
   · have HF:Hid (Zar L P=Zeq P 0 0 L):=by show _=_;rw[HF0.out,Yad (by omega)]
     have hz: ¬ (16:Int)<(P.length:Int):=by omega
     have hz0:((P.length:Int)==0)=false:=by rw[Yai];omega
     clear HF0;go_wp2;go_loopw [6,24] (fun vp vi wr=> ∃ k p:Nat,vi= .int .i64 k∧vp= .int .i64 p∧k≤L.length∧p<P.length∧Hid (Zar L P=Zeq P p k (L.drop k))∧Below w.heap.size w wr) (fun _ vi _=>L.length-(intOf vi).toNat)
     case atStart=>exact⟨0,0,rfl,rfl,by omega,by omega,HF,hb1⟩
     case round =>
      clear hb1 HF;obtain⟨k,p,rfl,rfl,hk,hp,HQ,hb⟩:=hrel;by_cases hlt:k<L.length
      · obtain ⟨B,O,rfl,hab,hadd,x0,x1,x2⟩:=(HR.out.below hb).line hlt;obtain⟨Bp,Op',rfl,hpb,hpadd,y0⟩:=(HP.out.below hb).strAt hp;have hbx:=Zarc (w:=wr) (T:=62) L[k] (Yae _ _)
        have hyx:(wr.alloc (.cells #[.int .i64 L[k].depth, .string L[k].word, .int .i64 L[k].mark] 62)).cell? ⟨Bp,Op'+p,none⟩=some (.string P[p]):=by
         rw[World.cell?_alloc_lt _ _ _ hpb];exact y0
        have hst:Hid (Zar L P=if L[k].depth<(p:Int)then none else if(p:Int)<L[k].depth then Zeq P p (k+1) (L.drop (k+1))else if(L[k].word.toList==P[p].toList)=false then Zeq P p (k+1) (L.drop (k+1))else if p+1=P.length then some k else Zeq P (p+1) (k+1) (L.drop (k+1))):=by
         show _=_;rw[HQ.out,Yay hlt,show P[p]=P.getD p ⟨#[]⟩ by simp[hp]];rfl
        have hbb:Below w.heap.size w (wr.alloc (.cells #[.int .i64 L[k].depth, .string L[k].word, .int .i64 L[k].mark] 62)):=Zaa hb ((Yae _ _).alloc (Yag _) _);obtain⟨b0,b1,b2⟩:=hbx;have HB:=Zhd hbb;clear hb hbb HQ b2;generalize L[k]=x at *;obtain⟨y,hy⟩: ∃ y,P[p]=y:=⟨_,rfl⟩;rw[hy]at hst hyx;clear y0 hy;by_cases hc1:x.depth<(p:Int)
        · have HF:Hid (Zar L P=none):=by show _=_;rw[hst.out,Yan hc1]
          clear hst;go_wp2;exact bodyPost_ret (v:= .tuple #[.int .i64 0, .bool false]) (by simp[results,results47,go_sem]) rfl ⟨by rw[HF.out];rfl,HB.out⟩
        · by_cases hc2':(p:Int)<x.depth
          · have HQ2:Hid (Zar L P=Zeq P p (k+1) (L.drop (k+1))):=by show _=_;rw[hst.out,Yad hc1,Yan hc2']
            have g1:decide ((p:Int)<x.depth)=true:=Yal hc2';clear hst;go_wp2_with fail;go_quiet (fail);go_wp2;go_roundw
            case rel=>exact⟨k+1,p,by go_num,rfl,by omega,hp,HQ2,below_drewN HB.out _⟩
            case measure=>simp[intOf];omega
          · have g1:decide ((p:Int)<x.depth)=false:=Yah hc2';cases g2:x.word.toList==y.toList with
            | false=>
              have HQ2:Hid (Zar L P=Zeq P p (k+1) (L.drop (k+1))):=by show _=_;rw[hst.out,Yad hc1,Yad hc2',Yan g2]
              clear hst;go_wp2_with fail;go_quiet (fail);go_wp2;go_roundw
              case rel=>exact⟨k+1,p,by go_num,rfl,by omega,hp,HQ2,below_drewN HB.out _⟩
              case measure=>simp[intOf];omega
            | true=>
              have g3: ¬ (x.word.toList==y.toList)=false:=by rw[g2];decide
              by_cases hl:p+1=P.length
              · have HF:Hid (Zar L P=some k):=by show _=_;rw[hst.out,Yad hc1,Yad hc2',Yad g3,Yan hl]
                have hlb:((p:Int)==(P.length:Int)-1)=true:=by rw[beq_iff_eq];omega
                clear hst g3;go_wp2_with fail;go_quiet (fail);go_wp2;exact bodyPost_ret (v:= .tuple #[.int .i64 k, .bool true]) (by simp[results,results47,go_sem]) rfl ⟨by rw[HF.out];rfl,below_drewN HB.out _⟩
              · have HQ2:Hid (Zar L P=Zeq P (p+1) (k+1) (L.drop (k+1))):=by show _=_;rw[hst.out,Yad hc1,Yad hc2',Yad g3,Yad hl]
                have hlb:((p:Int)==(P.length:Int)-1)=false:=by rw[Yai];omega
                clear hst g3;go_wp2_with fail;go_quiet (fail);go_wp2;go_roundw
                case rel=>exact⟨k+1,p+1,by go_num,by go_num,by omega,by omega,HQ2,below_drewN HB.out _⟩
                case measure=>simp[intOf];omega
      · obtain rfl:k=L.length:=by omega
        have HF:Hid (Zar L P=none):=by show _=_;rw[HQ.out,Ydi];rfl
        clear HQ;go_wp2;exact bodyPost_ret (v:= .tuple #[.int .i64 0, .bool false]) (by simp[results,results47,go_sem]) rfl ⟨by rw[HF.out];rfl,hb⟩
end Go.Proofs.Zq
namespace Tre
open Go
def Zii (P:List ByteArray):Bool:=decide (P.length≤40)&&P.all fun l=>decide (l.size≤100)
end Tre
namespace Go.Proofs.Zq
open Tryz
open Go Go.RowKit Go.Sort Tre
theorem Zans (A:Option Addr) (cap:Nat) (L:List ByteArray) (w:World) (hR:Rd w 1 A L.length (sv L)) (_hcap:L.length≤cap) (_hc:cap≤maxLen):
 Calls prog 19 #[.slice A L.length cap] w fun e w'=>e= .returned (.bool (Zii L))∧Below w.heap.size w w':=by
 have HR:=Zhd hR;have HX:Hid (Zii L=(decide (L.length≤40)&&L.all fun l=>decide (l.size≤100))):=rfl
 clear hR;unfold maxLen at _hc;go_enter func19,ntmps19;by_cases h1:40<L.length
 · have hz:(40:Int)<(L.length:Int):=by omega
   have HF:Hid (Zii L=false):=by show _=_;rw[HX.out,Yah (by omega)];rfl
   go_wp2;go_ret;exact⟨Zaj (by rw[HF.out]),Yae _ _⟩
 · have hz: ¬ (40:Int)<(L.length:Int):=by omega
   have HX2:Hid (Zii L=L.all fun l=>decide (l.size≤100)):=by show _=_;rw[HX.out,Yal (by omega),Ydq]
   clear HX;go_wp2;go_loopw [3] (fun vk wr=> ∃ k:Nat,vk= .int .i64 k∧k≤L.length∧Hid (Zii L=(L.drop k).all fun l=>decide (l.size≤100))∧wr=w) (fun vk _=>L.length-(intOf vk).toNat)
   case atStart=>exact⟨0,rfl,by omega,HX2,rfl⟩
   case round=>
    clear HX2;obtain⟨k,rfl,hk,HQ,rfl⟩:=hrel;by_cases hlt:k<L.length
    · obtain⟨B,O,rfl,hab,hadd,x1⟩:=HR.out.strAt hlt
      have hst:Hid (Zii L=(decide (L[k].size≤100)&&(L.drop (k+1)).all fun l=>decide (l.size≤100))):=by
       show _=_;rw[HQ.out,Yay hlt,Ycu]
      clear HQ;generalize L[k]=x at *;by_cases hx:100<x.size
      · have hz2:(100:Int)<(x.size:Int):=by omega
        have HF:Hid (Zii L=false):=by show _=_;rw[hst.out,Yah (by omega)];rfl
        clear hst;go_wp2;go_ret;exact⟨Zaj (by rw[HF.out]),Yae _ _⟩
      · have hz2: ¬ (100:Int)<(x.size:Int):=by omega
        have HQ2:Hid (Zii L=(L.drop (k+1)).all fun l=>decide (l.size≤100)):=by show _=_;rw[hst.out,Yal (by omega),Ydq]
        clear hst;go_wp2_with fail;go_roundw
        case rel=>exact⟨k+1,by go_num,by omega,HQ2,by first|rfl|trivial⟩
        case measure=>simp[intOf];omega
    · have HF:Hid (Zii L=true):=by show _=_;rw[HQ.out,Ybe (by omega)];rfl
      clear HQ;go_wp2;go_ret;exact⟨Zaj (by rw[HF.out]),Yae _ _⟩
end Go.Proofs.Zq
namespace Tre
open Go
end Tre
namespace Go.Proofs.Zq
open Tryz
open Go Go.RowKit Go.Sort Tre
theorem Zamj (w:World) (base:Nat) (T:TypeId) (size:Nat) (hb:base≤w.heap.size):(w.alloc (.cells #[] T)).ownsRow base T size (.slice (some ⟨w.heap.size,0,none⟩) 0 0) 0 []:=by
 have:=World.ownsRow_lit (e:=T) (size:=size) (base:=base) w #[] 0 hb (by unfold maxLen;omega) (by simp)
 simpa using this
theorem Zaaa {P:Program} {ops:Array Oper} {rest:List Oper} {o:Oper} {a:Act} {Q:Exit→Act→World→Prop} (hgd:o.guard=none) (s x:Operand) (t:TypeId)
 (ho:o.op= .call {callee:= .builtin .append,args:= #[s,x],argTypes:= #[t,t]})
 (w0 wr:World) (e:TypeId) (i:TypeInfo) (z:Value) (size bytes:Nat) (ht:P.underlying t=some (.slice e)) (hi:P.info? e=some i) (hz:i.zero=some z)
 (hsize:i.size=size) (hby:i.bytes=bytes) (hzs:z.cells.size=size) (hsz:0<size) (hb64:bytes≤64)
 {v:Value} {n:Nat} {xs:List Value} (hown:wr.ownsRow w0.heap.size e size v n xs) (hb:Below w0.heap.size w0 wr) (hs:a.eval s=v)
 (A:Option Addr) (m c:Nat) (news:List Value) (hx:a.eval x= .slice A m c) (hR:Rd wr size A m news) (hnil:A=none→c=0) (h1: ∀ u∈news,u.oneCell'=true)
 (hN:n+m≤1000000000)
 (h: ∀ v' w',w'.ownsRow w0.heap.size e size v' (n+m) (xs++news)→Below w0.heap.size w0 w'→wpList P ops Q rest (a.put o.dst v') w'):
 wpList P ops Q (o::rest) a wr:=by
 have hbytes:(n+m)*bytes≤140737488355328:=Yas (Yde hN hb64) (by decide)
 rcases A with _|ad
 · have hm:m=0:=by
    rcases Ybn m with h0|h0
    · exact h0
    · obtain⟨ad,h,-⟩:=hR.2 h0;cases h
   subst hm;have hn:news= []:=Yar (by simpa using hR.1)
   subst hn;obtain rfl:=hnil rfl;exact wpList_append_own_none hgd s x t ho w0.heap.size e i size ht hi v n xs hs hown hx (h v wr (by simpa using hown) hb)
 · refine wpList_append_own _ hgd s x t ho w0.heap.size e i z size bytes ht hi hz hsize hby hzs hsz v n xs hs hown ad m c news hx hR.1 ?_ h1 (by unfold maxLen;omega) hbytes hb.size ?_
   · intro j u hu;obtain⟨ad',e',-,hc⟩:=hR.cell hu;injection e' with e'
     subst e';exact hc
   · intro v' w' hown' hg _;exact h v' w' hown' (hb.grown hg hb.size fun q hq=>(hown.lt q hq).1)
theorem Zcv {w:World} {base:Nat} {e:TypeId} {k:Nat} {v:Value} {n:Nat} {xs:List Value} (h:w.ownsRow base e k v n xs): ∃ A c,v= .slice A n c∧n≤c∧c≤maxLen∧Rd w k A n xs∧((A=none→c=0)∧Zd A):=by
 rcases h.2 with⟨rfl,rfl⟩|⟨g,cap,cur,rfl,hg,hh,hnc,hcm,hsz,ht⟩
 · exact⟨none,0,rfl,Yag _,by unfold maxLen;omega,Rd.of_own (base:=base) (e:=e) (c:=0) h,fun _=>rfl,Zaox⟩
 · exact⟨some ⟨g,0,none⟩,cap,rfl,hnc,hcm,Rd.of_own h,(fun h=>by cases h),Zaoy g⟩
theorem Zlc {w:World} {base b2:Nat} {e:TypeId} {k:Nat} {v:Value} {n:Nat} {xs:List Value} (h:w.ownsRow base e k v n xs) (hb:b2≤base):w.ownsRow b2 e k v n xs:=
 ⟨h.1,h.2.imp id fun⟨g,cap,cur,h1,h2,h3⟩=>⟨g,cap,cur,h1,Yas hb h2,h3⟩⟩
def Zair (w:World) (P:List ByteArray) (e:Ending) (w':World):Prop:=
 ∃ A c,e= .returned (.slice A P.length c)∧P.length≤c∧c≤maxLen∧Rd w' 1 A P.length (sv P)∧((A=none→c=0)∧Zd A)∧Below w.heap.size w w'
end Go.Proofs.Zq
namespace Tre
open Go
def Zdv (L:List Line) (k:Nat):Line:=match L[k]? with|some l=>l|none=>⟨0,⟨#[]⟩,0⟩
theorem Zdm {L:List Line} {i:Nat} (h:i<L.length):Zdv L i=L[i]:=by unfold Zdv;rw[Yaj h]
end Tre
namespace Go.Proofs.Zq
open Tryz
open Go Go.RowKit Go.Sort Tre
end Go.Proofs.Zq
namespace Tre
open Go
def nxt (p:List ByteArray) (l:Line):List ByteArray:=p.take l.depth.toNat++ [l.word]
def Zbu (p:List ByteArray):List Line→List (List ByteArray)
 | []=> []
 |l::r=>nxt p l::Zbu (nxt p l) r
def Zaf (L:List Line):List (List ByteArray):=Zbu [] L
def Zcr (p:List ByteArray):List Line→Bool
 | []=>true
 |l::r=>Zbx l&&decide (l.depth≤(p.length:Int))&&Zcr (nxt p l) r
def Zacg (p:List ByteArray) (l:Line):Bool:=decide (l.depth=(p.length:Int))||Op.bytesLess (p.getD l.depth.toNat ⟨#[]⟩).toList l.word.toList
def Zjc (p:List ByteArray):List Line→Bool
 | []=>true
 |l::r=>Zacg p l&&Zjc (nxt p l) r
theorem Zed {l:Line} (h:Zbx l=true):0≤l.depth∧l.depth<16:=by
 unfold Zbx at h;simp only[Yat,Yap]at h;exact⟨h.1.1.1.1,h.1.1.1.2⟩
theorem Zwh {p:List ByteArray} {l:Line} (h0:0≤l.depth) (h:l.depth≤(p.length:Int)):((nxt p l).length:Int)=l.depth+1:=by
 unfold nxt;rw[Yak,Yaf];simp;omega
theorem Zaed (a b:List UInt8):(Op.bytesLess a b||a==b)= !(Op.bytesLess b a):=by
 rw[Proofs.bytesLess_eq,Proofs.bytesLess_eq,Ycl];simp only[Bool.or_eq_true,Yap,beq_iff_eq,Yer,decide_eq_false_iff_not];constructor
 · rintro(h|rfl) h2
   · exact Yei a (List.lt_trans h h2)
   · exact Yei a h2
 · intro h;rcases List.le_iff_lt_or_eq.1 (List.not_lt.1 h)with h|h
   · exact .inl h
   · exact .inr h
theorem Zado: ∀ {L:List Line} {p:List ByteArray} {la:Nat→ByteArray},(∀ (j:Nat) (h:j<p.length),la j=p[j])→Zdi ((p.length:Int)-1) la L=(Zcr p L&&Zjc p L)
 | [],p,la,h=>rfl
 | l :: r,p,la,h=>by
   unfold Zdi rgOk Zcr Zjc Zacg;cases hs:Zbx l with
   |false=>simp
   | true =>
     obtain⟨d0,d1⟩:=Zed hs;by_cases hd:l.depth≤(p.length:Int)
     · rw [Yal (p:=l.depth≤(p.length:Int)-1+1) (by omega),Yal hd]
       have hn:=Zwh d0 hd
       have ih:=Zado (L:=r) (p:=nxt p l) (la:=put la l.depth l.word) (fun j hj=>by
        unfold put nxt at *;rw[Yak,Yaf]at hj;simp only[Ybv]at hj;by_cases e:j=l.depth.toNat
        · rw[Yan e,Yec (by rw[Yaf];omega)]
          simp
        · rw[Yad e,Ydv (by rw[Yaf];omega),Ycs]
          exact h j (by omega))
       rw[show((nxt p l).length:Int)-1=l.depth by omega]at ih
       rw[ih];by_cases he:l.depth=(p.length:Int)
       · rw[Yah (p:=l.depth≤(p.length:Int)-1) (by omega),Yal he]
         simp
       · have hlt:l.depth.toNat<p.length:=by omega
         rw[Yal (p:=l.depth≤(p.length:Int)-1) (by omega),Yah he,h _ hlt]
         have:p.getD l.depth.toNat ⟨#[]⟩=p[l.depth.toNat]:=by rw[Yaq,Yaj hlt];rfl
         rw[this];unfold leB;rw[Zaed];cases Op.bytesLess p[l.depth.toNat].toList l.word.toList<;>simp
     · rw[Yah (p:=l.depth≤(p.length:Int)-1+1) (by omega),Yah hd]
       simp
theorem Zsd (L:List Line):Zab L=(decide (L.length≤200)&&(Zcr [] L&&Zjc [] L)):=by
 unfold Zab;rw[←Zado (L:=L) (p:= []) (la:=fun _=>⟨#[]⟩) (fun j h=>by simp at h)]
 rfl
theorem Zet: ∀ (p:List ByteArray) (L:List Line),(Zbu p L).length=L.length
 |_,[]=>rfl
 |p,l::r=>by unfold Zbu;rw[Ybf,Ybf,Zet]
theorem Zae (L:List Line):(Zaf L).length=L.length:=Zet _ _
theorem Zei: ∀ {p:List ByteArray} {L:List Line},Zcr p L=true→ ∀ (i:Nat) (h:i<L.length),Zbx L[i]=true∧((Zbu p L)[i]'(by rw[Zet];exact h)).length=L[i].depth.toNat+1∧0≤L[i].depth
 |_,[],_,i,h=>absurd h (by simp)
 | p,l::r,hd,i,h=>by
   unfold Zcr at hd;simp only[Yat,Yap]at hd;obtain⟨d0,d1⟩:=Zed hd.1.1;cases i with
   | zero=>
     have:=Zwh d0 hd.1.2;exact⟨hd.1.1,by simp only[Zbu,Yej];omega,d0⟩
   |succ i=>simpa[Zbu]using Zei hd.2 i (by simpa using h)
theorem Zls: ∀ (p:List ByteArray) (L:List Line) (i:Nat) (h:i+1<L.length),(Zbu p L)[i+1]'(by rw[Zet];exact h)=nxt ((Zbu p L)[i]'(by rw[Zet];omega)) L[i+1]
 |p,[],i,h=>absurd h (by simp)
 | p,l::r,0,h=>by
   cases r with
   |nil=>simp at h
   |cons a r=>rfl
 |p,l::r,i+1,h=>by simpa[Zbu]using Zls (nxt p l) r i (by simpa using h)
theorem Zoz: ∀ {p:List ByteArray} {L:List Line},Zcr p L=true→ ∀ (i:Nat) (h:i+1<L.length),L[i+1].depth≤L[i].depth+1
 |_,[],_,i,h=>absurd h (by simp)
 | p,l::r,hd,0,h=>by
   unfold Zcr at hd;simp only[Yat,Yap]at hd;obtain⟨d0,d1⟩:=Zed hd.1.1;cases r with
   |nil=>simp at h
   | cons a r=>
     have h2:=hd.2;unfold Zcr at h2;simp only[Yat,Yap]at h2;have:=Zwh d0 hd.1.2;show a.depth≤l.depth+1;omega
 | p,l::r,hd,i+1,h=>by
   unfold Zcr at hd;simp only[Yat,Yap]at hd;simpa using Zoz hd.2 i (by simpa using h)
theorem Zxq {L:List Line} (hd:Zcr [] L=true) (h:0<L.length):L[0].depth=0:=by
 cases L with
 |nil=>simp at h
 | cons l r=>
   unfold Zcr at hd;simp only[Yat,Yap]at hd;obtain⟨d0,d1⟩:=Zed hd.1.1;have:=hd.1.2;simp at this;show l.depth=0;omega
def pa (L:List Line) (i:Nat):List ByteArray:=(Zaf L).getD i []
theorem Zfj {L:List Line} {i:Nat} (h:i<L.length):pa L i=(Zaf L)[i]'(by rw[Zae];exact h):=by
 unfold pa;rw[Yaq,Yaj (by rw[Zae];exact h)];rfl
section
variable {L:List Line} (hd:Zcr [] L=true)
include hd
theorem Zby {i:Nat} (h:i<L.length):0≤Zao L i∧Zao L i<16:=by
 rw[Zau h];exact Zed (Zei hd i h).1
theorem Zbt {i:Nat} (h:i<L.length):(pa L i).length=(Zao L i).toNat+1:=by
 rw[Zfj h,Zau h];exact(Zei hd i h).2.1
theorem Zkt {i:Nat} (h:i+1<L.length):Zao L (i+1)≤Zao L i+1:=by
 rw[Zau h,Zau (by omega)];exact Zoz hd i h
omit hd in
theorem Zjb {i:Nat} (h:i+1<L.length):pa L (i+1)=(pa L i).take (Zao L (i+1)).toNat++ [Zbf L (i+1)]:=by
 rw[Zfj h,Zfj (by omega:i<L.length),Zau h,Zbj h]
 exact Zls [] L i h
theorem Zvd (h:0<L.length):Zao L 0=0:=by rw[Zau h];exact Zxq hd h
theorem Zrv (h:0<L.length):pa L 0= [Zbf L 0]:=by
 rw[Zfj h,Zbj h];cases L with
 |nil=>simp at h
 |cons l r=>simp[Zaf,Zbu,nxt]
theorem Zru {D:Nat} {i:Nat}: ∀ {k:Nat},i≤k→k<L.length→(∀ m,i<m→m≤k→(D:Int)≤Zao L m)→(pa L k).take D=(pa L i).take D:=by
 intro k
 induction k with
 |zero=>intro h1 h2 _;rw[show i=0 by omega]
 | succ k ih=>
   intro h1 h2 h3;by_cases e:i=k+1
   · rw[e]
   · rw[Zjb h2];have hk:=ih (by omega) (by omega) (fun m a b=>h3 m a (by omega))
     have hD:=h3 (k+1) (by omega) (Yag _)
     have hs:=Zkt hd h2;have hl:=Zbt hd (by omega:k<L.length)
     have hn:=Zby hd (by omega:k<L.length)
     rw[Ycf (by rw[Yaf];omega),Yct,Ybb (by omega)]
     exact hk
theorem Zatk {D:Nat} (hD:1≤D): ∀ {k:Nat},0<k→k≤L.length→(D:Int)≤Zao L (k-1)+1→
 ∃ j,j<k∧Zbk L D k=(j:Int)∧Zao L j=(D:Int)-1∧(∀ m,j<m→m<k→(D:Int)≤Zao L m)∧pa L j=(pa L (k-1)).take D:=by
 intro k
 induction k with
 |zero=>intro h;omega
 | succ k ih=>
   intro _ h2 h3;simp only[Yem]at h3⊢;unfold Zbk;by_cases h:(D:Int)≤Zao L k
   · rw[Yan h];have hk0:k≠0:=by
      rintro rfl;rw[Zvd hd (by omega)]at h
      omega
     have hs:=Zkt hd (i:=k-1) (by omega)
     rw[show k-1+1=k by omega]at hs
     obtain⟨j,a,b,c,d,e⟩:=ih (by omega) (by omega) (by omega)
     refine⟨j,by omega,b,c,fun m x y=> ?_, ?_⟩
     · rcases Ybr m k with hm|hm
       · exact d m x hm
       · rw[show m=k by omega];exact h
     · rw[e];exact(Zru hd (D:=D) (i:=k-1) (k:=k) (by omega) (by omega) (fun m x y=>by rw[show m=k by omega];exact h)).symm
   · rw[Yad h];have hl:=Zbt hd (by omega:k<L.length)
     have hn:=Zby hd (by omega:k<L.length)
     exact⟨k,by omega,rfl,by omega,fun m x y=>by omega,by rw[Ybk (by omega)]⟩
theorem Zaii {i:Nat} (h0:Zao L i=0): ∀ k,k≤L.length→Zbk L (Zao L i) k= -1:=by
 intro k
 induction k with
 |zero=>intro _;rfl
 | succ k ih=>
   intro h;unfold Zbk;rw[Yan (by rw[h0];exact(Zby hd (by omega:k<L.length)).1)]
   exact ih (by omega)
theorem up_of {i:Nat} (h:i<L.length) (h0:Zao L i≠0): ∃ j,j<i∧Zdp L i=(j:Int)∧Zao L j=Zao L i-1∧(∀ m,j<m→m≤i→Zao L i≤Zao L m)∧pa L i=pa L j++ [Zbf L i]:=by
 have hn:=Zby hd h;have hi0:i≠0:=by rintro rfl;exact h0 (Zvd hd h)
 have hs:=Zkt hd (i:=i-1) (by omega)
 rw[show i-1+1=i by omega]at hs
 obtain⟨D,hD⟩: ∃ D:Nat,Zao L i=(D:Int):=⟨(Zao L i).toNat,by omega⟩
 obtain⟨j,a,b,c,d,e⟩:=Zatk hd (D:=D) (by omega) (k:=i) (by omega) (by omega) (by omega)
 refine⟨j,a,by unfold Zdp;rw[hD];exact b,by omega,fun m x y=> ?_, ?_⟩
 · rcases Ybr m i with hm|hm
   · rw[hD];exact d m x hm
   · rw[show m=i by omega];exact Int.le_refl _
 · have:=Zjb (L:=L) (i:=i-1) (by omega)
   rw[show i-1+1=i by omega,hD,Ybs]at this
   rw[this,e]
theorem Zot: ∀ {i:Nat},i<L.length→Zen L i=pa L i:=by
 intro i
 induction i using Nat.strongRecOn with
 | ind i ih=>
   intro h;by_cases h0:Zao L i=0
   · rw[Zamo L i (by unfold Zdp;exact Zaii hd h0 i (by omega))]
     rcases Ybn i with rfl|hp
     · exact(Zrv hd h).symm
     · have:=Zjb (L:=L) (i:=i-1) (by omega)
       rw[show i-1+1=i by omega,h0]at this
       rw[this];rfl
   · obtain⟨j,a,b,c,d,e⟩:=up_of hd h h0;rw[Zamn L i j b,ih j a (by omega),e]
theorem Zoh {i:Nat}: ∀ {q:Nat},i<L.length→1≤q→q≤(pa L i).length→ ∃ m,m≤i∧pa L m=(pa L i).take q:=by
 induction i using Nat.strongRecOn with
 | ind i ih=>
   intro q h h1 h2;by_cases hq:q=(pa L i).length
   · exact⟨i,Yag _,by rw[hq,Ybz]⟩
   · by_cases h0:Zao L i=0
     · have:=Zbt hd h;rw[h0]at this;simp at this;omega
     · obtain⟨j,a,b,c,d,e⟩:=up_of hd h h0;have hl:(pa L i).length=(pa L j).length+1:=by rw[e];simp
       obtain⟨m,hm,hm2⟩:=ih j a (q:=q) (by omega) h1 (by omega)
       exact⟨m,by omega,by rw[hm2,e,Ycf (by omega)]⟩
end
def key (p:List ByteArray):List (List UInt8):=p.map (·.toList)
def pLt (a b:List ByteArray):Prop:=key a<key b
theorem Zjq {a b:ByteArray} (h:a.toList=b.toList):a=b:=ByteArray.ext (Ydz.1 (by rwa [Lib.toList_data,Lib.toList_data]at h))
theorem Zbz (a:List ByteArray): ¬ pLt a a:=Yei _
theorem Zcb {a b c:List ByteArray} (h:pLt a b) (k:pLt b c):pLt a c:=List.lt_trans h k
theorem Zabt (a:ByteArray) (l:List ByteArray):pLt [] (a::l):=List.Lex.nil
theorem Zpy {x:ByteArray} {a b:List ByteArray}:pLt (x::a) (x::b)↔pLt a b:=by
 unfold pLt key;rw[List.map_cons,List.map_cons];constructor
 · intro h;cases h with
   |rel h=>exact absurd h (Yei _)
   |cons h=>exact h
 · exact fun h=>List.Lex.cons h
theorem Ziz {x y:ByteArray} {a b:List ByteArray} (h:x.toList<y.toList):pLt (x::a) (y::b):=List.Lex.rel h
theorem Zel {x y:ByteArray} {a b:List ByteArray}:pLt (x::a) (y::b)↔x.toList<y.toList∨x=y∧pLt a b:=by
 constructor
 · intro h;by_cases e:x=y
   · subst e;exact .inr ⟨rfl,Zpy.1 h⟩
   · have h':(x.toList::key a)<(y.toList::key b):=h;rcases List.cons_lt_cons_iff.1 h' with h'|⟨h',-⟩
     · exact .inl h'
     · exact absurd (Zjq h') e
 · rintro(h|⟨rfl,h⟩)
   · exact Ziz h
   · exact Zpy.2 h
theorem Zld (a:List ByteArray) (x:ByteArray) (l:List ByteArray):pLt a (a++x::l):=by
 induction a with
 |nil=>exact Zabt _ _
 |cons y a ih=>exact Zpy.2 ih
theorem Zfi {a b c:List ByteArray}:pLt (a++b) (a++c)↔pLt b c:=by
 induction a with
 |nil=>exact Iff.rfl
 |cons y a ih=>rw[Ycj,Ycj,Zpy,ih]
theorem Zja (a:List ByteArray): ¬ pLt a []:=by intro h;cases a<;>cases h
theorem Zajc {a b t:List ByteArray} (h1:pLt a b) (h2:pLt b (a++t)∨b=a++t): ∃ s,b=a++s:=by
 induction a generalizing b with
 |nil=>exact⟨b,rfl⟩
 | cons x a ih=>
   cases b with
   |nil=>exact absurd h1 (Zja _)
   | cons y b=>
     rcases h2 with h2|h2
     · rw[Ycj,Zel]at h2;rw[Zel]at h1;rcases h1 with h1|⟨rfl,h1⟩
       · rcases h2 with h2|⟨rfl,h2⟩
         · exact absurd (List.lt_trans h1 h2) (Yei _)
         · exact absurd h1 (Yei _)
       · rcases h2 with h2|⟨-,h2⟩
         · exact absurd h2 (Yei _)
         · obtain⟨s,rfl⟩:=ih h1 (.inl h2);exact⟨s,rfl⟩
     · exact⟨t,h2⟩
theorem Zayb {p:List ByteArray} {l:Line} (h0:0≤l.depth) (h:l.depth≤(p.length:Int)) (hs:Zacg p l=true):pLt p (nxt p l):=by
 unfold Zacg at hs;unfold nxt;simp only[Bool.or_eq_true,Yap]at hs;by_cases e:l.depth=(p.length:Int)
 · rw[e,Ybs,Ybz];exact Zld _ _ _
 · have hlt:l.depth.toNat<p.length:=by omega
   have hb:=hs.resolve_left e;rw[Yaq,Yaj hlt,Proofs.bytesLess_eq,Yap]at hb
   conv=>lhs;rw[←Ybh l.depth.toNat p]
   rw[Yay hlt];exact Zfi.2 (Ziz hb)
theorem Zki: ∀ {L:List Line} {p:List ByteArray},Zcr p L=true→Zjc p L=true→(∀ q∈Zbu p L,pLt p q)∧(Zbu p L).Pairwise pLt
 | [],p,_,_=>⟨fun q h=>(by cases h),List.Pairwise.nil⟩
 | l::r,p,h1,h2=>by
   unfold Zcr at h1;unfold Zjc at h2;simp only[Yat,Yap]at h1 h2;obtain⟨d0,d1⟩:=Zed h1.1.1;have hu:=Zayb d0 h1.1.2 h2.1;obtain⟨a,b⟩:=Zki h1.2 h2.2;unfold Zbu;refine⟨fun q hq=> ?_,Ycd.2 ⟨a,b⟩⟩
   rcases Yax.1 hq with rfl|hq
   · exact hu
   · exact Zcb hu (a q hq)
theorem Zac {L:List Line} (h:Zab L=true):L.length≤200∧Zcr [] L=true∧Zjc [] L=true:=by
 rw[Zsd]at h;simpa using h
theorem Zrx (L:List Line):Zaf L=(List.range L.length).map (pa L):=by
 apply List.ext_getElem
 · rw[Zae];simp
 · intro i h1 h2;rw[Ydj,List.getElem_range,Zfj (by rwa [Zae]at h1)]
theorem Zvi {L:List Line} {D:Int}: ∀ (n k:Nat),n=L.length-k→k≤L.length→(∀ m,k≤m→m<Zdc L D k→D<Zao L m)∧(Zdc L D k<L.length→Zao L (Zdc L D k)≤D)
 | 0,k,h,hk=>by
   obtain rfl:k=L.length:=by omega
   rw[Zqw];exact⟨fun m a b=>by omega,fun h=>by omega⟩
 | n +1,k,h,hk=>by
   have hlt:k<L.length:=by omega
   by_cases hd:D<L[k].depth
   · rw[Zpa hlt hd];obtain⟨a,b⟩:=Zvi (L:=L) (D:=D) n (k+1) (by omega) (by omega)
     refine⟨fun m x y=> ?_,b⟩
     rcases Nat.eq_or_lt_of_le x with rfl|x
     · rw[Zau hlt];exact hd
     · exact a m x y
   · rw[Zpb hlt hd];exact⟨fun m x y=>by omega,fun _=>by rw[Zau hlt];omega⟩
theorem Zto {L:List Line} {i k:Nat} (hi:i<L.length) (h1:i<k) (h2:k<endB L i):Zao L i<Zao L k:=
 (Zvi (L:=L) (D:=Zao L i) _ (i+1) rfl (by omega)).1 k h1 h2
theorem Zqy {L:List Line} {i:Nat} (hi:i<L.length) (h:endB L i<L.length):Zao L (endB L i)≤Zao L i:=
 (Zvi (L:=L) (D:=Zao L i) _ (i+1) rfl (by omega)).2 h
def isKid (p q:List ByteArray):Bool:=decide (q.length=p.length+1)&&decide (q.take p.length=p)
theorem Zmx {p q:List ByteArray}:isKid p q=true↔ ∃ w,q=p++ [w]:=by
 unfold isKid;simp only[Yat,Yap];constructor
 · rintro⟨h1,h2⟩;have h3:(q.drop p.length).length=1:=by rw[Yam];omega
   obtain⟨w,hw⟩:=Yek.1 h3
   exact ⟨w, by conv=>lhs;rw[←Ybh p.length q]
                rw[h2,hw]⟩
 · rintro⟨w,rfl⟩;simp
section
variable {L:List Line} (hr:Zab L=true)
include hr
theorem Zos {i k:Nat} (h:i<k) (hk:k<L.length):pLt (pa L i) (pa L k):=by
 obtain⟨-,hd,hs⟩:=Zac hr;have:=(Zki hd hs).2;rw[Zfj (by omega:i<L.length),Zfj hk]
 exact Yds.1 this i k _ _ h
theorem Zael {i k:Nat} (hi:i<L.length) (hk:k<L.length) (e:pa L i=pa L k):i=k:=by
 rcases Nat.lt_trichotomy i k with h|h|h
 · have:=Zos hr h hk;rw[e]at this;exact absurd this (Zbz _)
 · exact h
 · have:=Zos hr h hi;rw[e]at this;exact absurd this (Zbz _)
theorem Zdr {i k:Nat} (hi:i<L.length) (hk:k<L.length):(∃ s,pa L k=pa L i++s)↔i≤k∧k<endB L i:=by
 obtain⟨-,hd,-⟩:=Zac hr;have hb:=Zbc L i hi;have hl:=Zbt hd hi;have hn:=Zby hd hi;constructor
 · rintro⟨s,hs⟩;have h1:i≤k:=by
    rcases Ybr k i with h|h
    · exfalso;have hu:=Zos hr h hi;rw[hs]at hu;cases s with
      |nil=>rw[Ybg]at hu;exact Zbz _ hu
      |cons x s=>exact Zbz _ (Zcb hu (Zld _ _ _))
    · exact h
   refine⟨h1, ?_⟩;rcases Ybr k (endB L i)with h|h
   · exact h
   · exfalso;have he:endB L i<L.length:=by omega
     have ho:=Zqy hi he;have hl2:=Zbt hd he;have hn2:=Zby hd he;have hu:=Zos hr (by omega:i<endB L i) he
     obtain⟨t,ht⟩:=Zajc hu (t:=s) (by
      rw[←hs];rcases Nat.eq_or_lt_of_le h with h|h
      · exact .inr (by rw[h])
      · exact .inl (Zos hr h hk))
     have hlen:(pa L (endB L i)).length≤(pa L i).length:=by omega
     rw[ht,Yak]at hlen;have:t= []:=Yar (by omega)
     rw[this,Ybg]at ht;rw[ht]at hu;exact Zbz _ hu
 · rintro⟨h1,h2⟩
   have hk2:=Zru hd (D:=(pa L i).length) h1 hk (fun m a b=>by
    have:=Zto hi a (by omega)
    rw[hl];omega)
   rw[Ybz]at hk2;exact⟨(pa L k).drop (pa L i).length,by conv=>lhs;rw[←Ybh (pa L i).length (pa L k),hk2]⟩
theorem Zabj {i k:Nat} (hi:i<L.length) (hk:k<L.length):isKid (pa L i) (pa L k)=true↔i+1≤k∧k<endB L i∧Zao L k=Zao L i+1:=by
 obtain⟨-,hd,-⟩:=Zac hr;have hl:=Zbt hd hi;have hn:=Zby hd hi;have hl2:=Zbt hd hk;have hn2:=Zby hd hk;rw[Zmx];constructor
 · rintro⟨w,hw⟩;obtain⟨a,b⟩:=(Zdr hr hi hk).1 ⟨_,hw⟩;have hlen:(pa L k).length=(pa L i).length+1:=by rw[hw];simp
   refine⟨?_,b,by omega⟩
   rcases Nat.eq_or_lt_of_le a with rfl|h
   · omega
   · exact h
 · rintro⟨a,b,c⟩;obtain⟨s,hs⟩:=(Zdr hr hi hk).2 ⟨by omega,b⟩
   have hlen:(pa L k).length=(pa L i).length+s.length:=by rw[hs];simp
   obtain⟨w,rfl⟩:=Yek.1 (by omega:s.length=1)
   exact⟨w,hs⟩
theorem Zex {k:Nat} (hk:k<L.length):(pa L k).getLastD ⟨#[]⟩=Zbf L k:=by
 obtain⟨-,hd,-⟩:=Zac hr;rcases Ybn k with rfl|hp
 · rw[Zrv hd hk];rfl
 · have:=Zjb (L:=L) (i:=k-1) (by omega)
   rw[show k-1+1=k by omega]at this
   rw[this];simp
theorem Zgh {P:List ByteArray}: ∀ (n i p:Nat),n=L.length-i→i≤L.length→p<P.length→(∀ k,k<i→pa L k≠P.take (p+1))→
 (p=0∨ ∃ j,j<i∧pa L j=P.take p∧ ∀ m,j<m→m<i→(p:Int)≤Zao L m)→
 (∀ k,Zeq P p i (L.drop i)=some k→k<L.length∧pa L k=P)∧(Zeq P p i (L.drop i)=none→ ∀ k,k<L.length→pa L k≠P)
 | 0,i,p,hn,hi,hp,ha,hb=>by
   obtain⟨-,hd,-⟩:=Zac hr;obtain rfl:i=L.length:=by omega
   rw[Ydi];unfold Zeq;refine⟨fun k h=>(by cases h),fun _ k hk e=> ?_⟩
   obtain⟨m,hm,hm2⟩:=Zoh hd hk (q:=p+1) (by omega) (by rw[e];omega)
   exact ha m (by omega) (by rw[hm2,e])
 | n + 1, i, p,hn,hi,hp,ha,hb=>by
   obtain⟨-,hd,-⟩:=Zac hr;have hlt:i<L.length:=by omega
   have hl:=Zbt hd hlt;have hnn:=Zby hd hlt;rw[Yay hlt];unfold Zeq;rw[←Zau hlt,←Zbj hlt];have htake:(P.take (p+1)).length=p+1:=by rw[Yaf];omega
   by_cases h1:Zao L i<(p:Int)
   · rw[Yan h1];refine⟨fun k h=>(by cases h),fun _ k hk e=> ?_⟩
     obtain⟨m,hm,hm2⟩:=Zoh hd hk (q:=p+1) (by omega) (by rw[e];omega)
     have hmi: ¬ m<i:=fun h=>ha m h (by rw[hm2,e])
     rcases hb with rfl|⟨j,hj,hj2,hj3⟩
     · omega
     · obtain⟨-,hke⟩:=(Zdr hr (i:=j) (k:=k) (by omega) hk).1 ⟨P.drop p,by rw[e,hj2,Ybh]⟩
       have hlj:=Zbt hd (i:=j) (by omega)
       have hnj:=Zby hd (i:=j) (by omega)
       have hpl:(P.take p).length=p:=by rw[Yaf];omega
       rw[hj2,hpl]at hlj;have:=Zto (L:=L) (i:=j) (k:=i) (by omega) hj (by omega)
       omega
   · rw [Yad h1]
     have hkeep:p=0∨ ∃ j,j<i+1∧pa L j=P.take p∧ ∀ m,j<m→m<i+1→(p:Int)≤Zao L m:=by
      rcases hb with h|⟨j,a,b,c⟩
      · exact .inl h
      · refine .inr ⟨j,by omega,b,fun m x y=> ?_⟩
        rcases Ybr m i with h|h
        · exact c m x h
        · rw[show m=i by omega];omega
     by_cases h2:(p:Int)<Zao L i
     · rw[Yan h2];refine Zgh n (i+1) p (by clear ha hb hkeep;omega) (by clear ha hb hkeep;omega) hp (fun k hk=> ?_) hkeep
       rcases Ybr k i with h|h
       · exact ha k h
       · rw[show k=i by omega]
         intro e;rw[e,htake]at hl;omega
     · rw [Yad h2];have hdp:Zao L i=(p:Int):=by omega
       have hpa:pa L i=P.take p++ [Zbf L i]:=by
        by_cases h0:p=0
        · subst h0;rcases Ybn i with rfl|hpos
          · rw[Zrv hd hlt];rfl
          · have:=Zjb (L:=L) (i:=i-1) (by omega)
            rw[show i-1+1=i by omega,hdp]at this
            rw[this];rfl
        · obtain⟨j,a,b,c⟩:=hb.resolve_left h0;have:=Zjb (L:=L) (i:=i-1) (by omega)
          rw[show i-1+1=i by omega,hdp,Ybs]at this
          rw[this,Zru hd (D:=p) (i:=j) (k:=i-1) (by omega) (by omega) (fun m x y=>c m x (by omega)),b,Yct,Nat.min_self]
       have hgetD:P.getD p ⟨#[]⟩=P[p]:=by rw[Yaq,Yaj hp];rfl
       rw[hgetD];by_cases h3:Zbf L i=P[p]
       · rw [Yad (by rw[h3];simp)]
         have hpa2:pa L i=P.take (p+1):=by rw[hpa,h3,Yaw hp]
         by_cases h4:p+1=P.length
         · rw[Yan h4];have hP:pa L i=P:=by rw[hpa2,h4,Ybz]
           exact⟨fun k h=>(by cases h;exact⟨hlt,hP⟩),fun h=>(by cases h)⟩
         · rw[Yad h4];refine Zgh n (i+1) (p+1) (by clear ha hb hkeep;omega) (by omega) (by omega) (fun k hk e=> ?_) (.inr ⟨i,by omega,hpa2,fun m x y=>by omega⟩)
           rcases Ybr k i with h|h
           · obtain⟨m,hm,hm2⟩:=Zoh hd (i:=k) (by omega) (q:=p+1) (by omega) (by rw[e,Yaf];omega)
             refine ha m (by omega) ?_
             rw[hm2,e,Yct,Ybb (by omega)]
           · rw[show k=i by omega]at e
             rw[e,Yaf]at hl;omega
       · have hb2:((Zbf L i).toList==P[p].toList)=false:=by
          rw[Yai];intro e;exact h3 (Zjq e)
         rw[Yan hb2];refine Zgh n (i+1) p (by clear ha hb hkeep;omega) (by clear ha hb hkeep;omega) hp (fun k hk=> ?_) hkeep
         rcases Ybr k i with h|h
         · exact ha k h
         · rw[show k=i by omega,hpa,Yaw hp]
           intro e;have:=List.append_cancel_left e;simp only[List.cons.injEq,and_true]at this;exact h3 this
theorem Zek {P:List ByteArray} {k:Nat} (h:Zar L P=some k):k<L.length∧pa L k=P:=by
 unfold Zar at h;split at h
 · cases h
 · exact(Zgh hr (P:=P) _ 0 0 rfl (Yao _) (by omega) (fun k hk=>by omega) (.inl rfl)).1 k (by rw[Yeh];exact h)
theorem Zagl {P:List ByteArray} (h:Zar L P=none) {k:Nat} (hk:k<L.length):pa L k≠P:=by
 obtain⟨-,hd,-⟩:=Zac hr;unfold Zar at h;split at h
 · intro e;have:=Zbt hd hk;have:=Zby hd hk;rw[e]at *;omega
 · exact(Zgh hr (P:=P) _ 0 0 rfl (Yao _) (by omega) (fun k hk=>by omega) (.inl rfl)).2 (by rw[Yeh];exact h) k hk
theorem Zvm {k:Nat} (hk:k<L.length):Zar L (pa L k)=some k:=by
 cases h:Zar L (pa L k)with
 |none=>exact absurd rfl (Zagl hr h hk)
 | some j=>
   obtain⟨hj,e⟩:=Zek hr h;rw[Zael hr hj hk e]
theorem Zft {P:List ByteArray}:(Zar L P).isSome=true↔P∈Zaf L:=by
 rw[Zrx,Yda];constructor
 · intro h;obtain⟨k,hk⟩:=Option.isSome_iff_exists.1 h;obtain⟨a,b⟩:=Zek hr hk;exact⟨k,by simpa using a,b⟩
 · rintro⟨k,hk,rfl⟩;rw[Zvm hr (by simpa using hk)];rfl
end
end Tre
namespace Mtr
open Go Go.Lib Adr
def Zfe (b:List UInt8):Bool:=decide (1≤b.length)&&decide (b.length≤3)&&b.all Zdf&& !(hasSuffix b [48])
def Zjn (a:List UInt8):Bool:=Zjr a&&decide (a.length≤6)
def frac (b:List UInt8):Nat:=val b*10^(3-b.length)
def dec (t:List UInt8):Option Nat:=
 match t.dropWhile Zdf with
 | []=>if Zjn (t.takeWhile Zdf)then some (1000*val (t.takeWhile Zdf))else none
 |c::b=>if Zjn (t.takeWhile Zdf)&&(c==46&&Zfe b)then some (1000*val (t.takeWhile Zdf)+frac b)else none
theorem Zacv {p:UInt8→Bool}: ∀ {l:List UInt8},l.all p=true→l.takeWhile p=l∧l.dropWhile p= []
 | [],_=>⟨rfl,rfl⟩
 | c::r,h=>by
   simp only[Ycu,Yat]at h;rw[List.takeWhile_cons,List.dropWhile_cons,h.1];have:=Zacv h.2;exact⟨by simp[this.1],by simp[this.2]⟩
theorem Zox {p:UInt8→Bool} {c:UInt8} {b:List UInt8} (hc:p c=false): ∀ {l:List UInt8},l.all p=true→(l++c::b).takeWhile p=l∧(l++c::b).dropWhile p=c::b
 | [],_=>by simp[hc]
 | d::r,h=>by
   simp only[Ycu,Yat]at h;have:=Zox (b:=b) hc h.2;simp[h.1,this.1,this.2]
theorem Zgo {p:UInt8→Bool}: ∀ (l:List UInt8),l=l.takeWhile p++l.dropWhile p:=fun _l=>List.takeWhile_append_dropWhile.symm
theorem Zok {a:List UInt8} (h:Zjn a=true):a.all Zdf=true:=by
 unfold Zjn at h;simp only[Yat]at h;exact((Zho a).1 h.1).2.2.1
theorem Zaxp:Zdf 46=false:=by decide
theorem Zajy (t:List UInt8) (h:(46:UInt8)∉t):dec t=if Zjn t then some (1000*val t)else none:=by
 unfold dec;split
 · rename_i hd;have ht:t.takeWhile Zdf=t:=by have:=Zgo (p:=Zdf) t;rw[hd,Ybg]at this;exact this.symm
   rw[ht]
 · rename_i c b hd
   have hc:(c==46)=false:=by
    rw[Yai];rintro rfl;refine h ?_;rw[Zgo (p:=Zdf) t,hd];simp
   have hn:Zjn t=false:=by
    rw[Ycx];intro ht;have:=(Zacv (Zok ht)).2;rw[this]at hd;cases hd
   rw[hc,hn];simp
theorem Zxs (b:List UInt8): ∀ a:List UInt8,(46:UInt8)∉a→a.all Zdf=false→ ∃ c r,(a++46::b).dropWhile Zdf=c::r∧c≠46
 | [],_,h=>by simp at h
 | d::a,hn,h=>by
   rw[Yax,not_or]at hn;by_cases hd:Zdf d=true
   · rw[Ycu,hd,Ydq]at h;obtain⟨c,r,e,hc⟩:=Zxs b a hn.2 h;exact⟨c,r,by rw[Ycj,List.dropWhile_cons,hd];exact e,hc⟩
   · exact⟨d,a++46::b,by rw[Ycj,List.dropWhile_cons,Yad hd],fun e=>hn.1 e.symm⟩
theorem Zajv (a b:List UInt8) (h:(46:UInt8)∉a):dec (a++46::b)=if Zjn a&&Zfe b then some (1000*val a+frac b)else none:=by
 by_cases ha:a.all Zdf=true
 · have:=Zox (b:=b) Zaxp ha;unfold dec;rw[this.2,this.1];simp
 · have hn:Zjn a=false:=by
    rw[Ycx];exact fun e=>ha (Zok e)
   rw[hn,Bool.false_and,Yad (by decide)]
   obtain⟨c,r,hd,hc⟩:=Zxs b a h (by simpa using ha)
   unfold dec;rw[hd];show(if Zjn _&&(c==46&&Zfe r)then _ else none)=none
   rw[Yai.2 hc];simp
theorem Zaab (l:List UInt8) (hne:l≠ []) (hlen:l.length≤10) (hd:l.all Zdf=true):atoiAll l= .ok (val l):=by
 cases l with
 |nil=>exact absurd rfl hne
 | cons c r=>
   have hc:=(Zgj c).1 (by simp only[Ycu,Yat]at hd;exact hd.1)
   have hp:10^(c::r).length≤10^10:=Yeu (by decide) hlen
   have hv:=Zafj (c::r) hd;have e:parseUint10 0 (c::r)= .ok (val (c::r)):=Zpi (c::r) 0 hd (by simpa using hp)
   unfold atoiAll;simp only;rw[Yad (by omega)]
   unfold parseMag;rw[Yad (by simp),e]
   simp only;rw[Yad (by omega),Yad (by omega),Yad (by omega)]
theorem Zug (n:Nat):(repeatL [48] n).all Zdf=true∧(repeatL [48] n).length=n:=by
 induction n with
 |zero=>exact⟨rfl,rfl⟩
 |succ n ih=>unfold repeatL;simp[ih.1,ih.2,Zdf]
theorem Zth (a n:Nat):Zfr a (repeatL [48] n)=a*10^n:=by
 induction n generalizing a with
 |zero=>simp[repeatL,Zfa]
 | succ n ih=>
   unfold repeatL;rw[List.singleton_append,Zfn,ih];show(10*a+(48-48))*10^n=_;rw[Nat.pow_succ,Yep,Yef,Yen 10 a,Nat.mul_assoc,Yen 10]
theorem Zawz (b:List UInt8) (n:Nat):val (b++repeatL [48] n)=val b*10^n:=by
 unfold val;rw[Zhl,Zth]
theorem Zyb {b:List UInt8} (h1:1≤b.length) (h3:b.length≤3) (hd:b.all Zdf=true):atoiAll (b++repeatL [48] (3-b.length))= .ok (frac b):=by
 have hr:=Zug (3-b.length);rw[Zaab _ (by intro e;have:=congrArg List.length e;rw[Yak,hr.2,Ydx]at this;omega) (by rw[Yak,hr.2];omega) (by rw[List.all_append,hd,hr.1];rfl),Zawz]
 rfl
def Zgg:List UInt8:= [48,49,50,51,52,53,54,55,56,57]
theorem Zagg (c:UInt8):Zgg.contains c=Zdf c:=by
 have: ∀ n:Fin 256,Zgg.contains (UInt8.ofNat n)=Zdf (UInt8.ofNat n):=by decide+kernel
 have h:=this ⟨c.toNat,c.toNat_lt⟩;simpa using h
theorem Zms {p:UInt8→Bool} (l:List UInt8):l.dropWhile p= []↔l.all p=true:=by
 induction l with
 |nil=>simp
 | cons c r ih=>
   rw[List.dropWhile_cons,Ycu];by_cases h:p c=true
   · rw[Yan h,ih,h,Ydq]
   · rw[Yad h];simp[h]
theorem Zafg (cs l:List UInt8):trimS l cs= []↔l.all (cs.contains ·)=true:=by
 unfold trimS trimLeftS;rw[Zms];unfold trimRightS;rw[List.all_reverse];constructor
 · intro h;have h2:(l.reverse.dropWhile (cs.contains ·)).all (cs.contains ·)=true:=h;have e:=Zgo (p:=(cs.contains ·)) l.reverse
   have:l.reverse.all (cs.contains ·)=true:=by
    rw[e,List.all_append,h2,Bool.and_true];exact List.all_takeWhile
   simpa using this
 · intro h;have:l.reverse.dropWhile (cs.contains ·)= []:=by rw[Zms];simpa using h
   rw[this];rfl
theorem Zsv (l:List UInt8):trimS l Zgg= []↔l.all Zdf=true:=by
 rw[Zafg];rw[show(fun x=>Zgg.contains x)=Zdf from funext Zagg]
end Mtr
