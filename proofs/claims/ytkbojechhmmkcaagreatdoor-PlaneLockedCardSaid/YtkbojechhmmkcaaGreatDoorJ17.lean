import Derived.Test.YtkbojechhmmkcaaGreatDoorJ16
set_option linter.unusedVariables false
set_option linter.unusedSimpArgs false
set_option maxHeartbeats 4000000
set_option maxRecDepth 100000
namespace Go.Proofs.Zq
open Tryz
open Go Go.RowKit Go.Sort Tre Lx Prs
theorem Zxe.len {B g:Nat} {en:Int} {p:Pst} {W:World} (h:Zxe B g en p W):Zalm g W=p.l.length:=by
 obtain⟨_,_,_,_,h⟩:=h;exact h.len
def Zais (s:ByteArray) (w:World) (e:Ending) (w':World):Prop:=
 (∃ v,e= .returned (.tuple #[v, .int .i64 (Zlo s).2.1, .int .i64 (Zlo s).2.2])∧w'.ownsRow w.heap.size 62 3 v (Zlo s).1.length (lines (Zlo s).1))∧Below w.heap.size w w'
theorem Zati (s:ByteArray) (w:World) (hE:Env w) (hs:s.size≤1000000):
 Calls prog 40 #[.string s] w (Zais s w):=by
 have HA:=Zhd (Zapd s w hE hs);unfold Zain at HA;obtain⟨a,ha⟩: ∃ a,allB s.data.toList=a:=⟨_,rfl⟩;rw[ha]at HA;obtain⟨R,hR⟩: ∃ R,Zlo s=R:=⟨_,rfl⟩
 have HT:Hid (R=if a.2.2≠0 then([],(a.2.1:Int),a.2.2)else
  if(goB s.size a.1.length ⟨a.1,[],[]⟩).2.1≠0 then([],(goB s.size a.1.length ⟨a.1,[],[]⟩).1,(goB s.size a.1.length ⟨a.1,[],[]⟩).2.1)
  else if(goB s.size a.1.length ⟨a.1,[],[]⟩).2.2.opn.length≠0 then([],(s.size:Int),2)
  else(Zmk (goB s.size a.1.length ⟨a.1,[],[]⟩).2.2.nodes.length (goB s.size a.1.length ⟨a.1,[],[]⟩).2.2.nodes (-1),0,0)):=by
  show _=_;rw[←hR];unfold Zlo;simp only[ha]
 obtain⟨ts,at_,er⟩:=a;simp only at HT HA;unfold Zais;rw[hR];clear hE ha hR;go_enter func40,ntmps40;go_wp2_with fail;refine HA.out.mono ?_;rintro e w2 ⟨⟨v,rfl,ho⟩,hb2⟩;obtain⟨Al,cl,rfl,hc1,hc2,hrd,-,-⟩:=Zcv ho;have HB2:=Zhd hb2;clear HA ho hb2;by_cases he:er=0
 · subst he;have qe:((0:Int)!=0)=false:=rfl;obtain⟨w3,hw3⟩: ∃ w3,w2.alloc (.cells #[.slice Al ts.length cl, .int .i64 (s.size:Int), .slice none 0 0, .slice none 0 0] 127)=w3:=⟨_,rfl⟩;have hb3:Below w2.heap.size w2 w3:=by rw[←hw3];exact(Yae _ _).alloc (Yag _) _
   have hz3:w2.heap.size≤w3.heap.size:=hb3.size
   have HP3:Hid (Zxe w2.heap.size w2.heap.size s.size ⟨ts,[],[]⟩ w3):=
    ⟨Al,cl, .slice none 0 0, .slice none 0 0,by rw[←hw3];exact heap_alloc_new w2 _,Yag _,hc1,hc2,(RdB.of hrd).below hb3,World.ownsRow_nil _ _ _ _,World.ownsRow_nil _ _ _ _⟩
   have HB3:=Zhd hb3;obtain⟨G,hG⟩: ∃ G,goB s.size ts.length ⟨ts,[],[]⟩=G:=⟨_,rfl⟩;rw[hG]at HT;have HG0:=Zhd hG;clear hb3 hc1 hc2 hrd hG;go_wp2;go_loopw [] (fun wr=> ∃ p:Pst,Hid (Zxe w2.heap.size w2.heap.size s.size p wr)∧Hid (Prs.Good p)∧Hid (goB s.size p.l.length p=G)∧Hid (Below w2.heap.size w2 wr)) (fun wr=>Zalm w2.heap.size wr)
   case atStart=>exact⟨_,HP3,Prs.good_nil _,HG0,HB3⟩
   case round=>
    clear HP3 HG0 HB3;obtain⟨p,HP,HG,HQ,HB⟩:=hrel;have HBw:Hid (Below w.heap.size w wr):=Zaa HB2.out HB.out;have hBs:w2.heap.size≤wr.heap.size:=HB.out.size;by_cases hl:p.l= []
    · have HK:Hid (G=(0,0,p)):=by show _=_;rw[←HQ.out,Zavi _ _ hl]
      obtain⟨Al',cl',vn,vo,hp⟩:=HP.out;obtain⟨⟨An,cn,rfl⟩,Ao,co,rfl⟩:=hp.slices;obtain⟨c0,-,c2,c3⟩:=hp.cells;rw[show p.l.length=0 by rw[hl];rfl]at c0
      have HRn:=Zhd (Rd.of_own hp.2.2.2.2.2.1);by_cases ho:p.opn.length=0
      · have HK2:Hid (R=(Zmk p.nodes.length p.nodes (-1),0,0)):=by show _=_;rw[HT.out,HK.out];simp[ho]
        rw[ho]at c3;have HS:=Zhd (Zuj p.nodes HG.out.ap HG.out.ups HG.out.len p.nodes.length (-1) (by omega) An cn wr HRn.out)
        unfold Zcd at HS;clear hl ho hp HP HG HQ HB HT HK HRn;go_wp2_with fail;refine HS.out.mono ?_;rintro e w7 ⟨⟨v7,rfl,ho7⟩,hb7⟩;have HO7:=Zhd (Zlc ho7 HBw.out.size);have HB7:=Zhd (Zaa HBw.out hb7);clear HS ho7 hb7 c0 c2 c3;go_wp2;refine bodyPost_ret (v:= .tuple #[v7, .int .i64 0, .int .i64 0]) (by simp[results,results40,go_sem]) rfl ⟨⟨_,by rw[HK2.out], ?_⟩,HB7.out⟩
        rw[HK2.out];exact HO7.out
      · have HK2:Hid (R=([],(s.size:Int),2)):=by show _=_;rw[HT.out,HK.out];simp[ho]
        have hop:(0:Int)<(p.opn.length:Int):=by omega
        clear hl ho hp HP HG HQ HB HT HK HRn;go_wp2;refine bodyPost_ret (v:= .tuple #[.slice none 0 0, .int .i64 (s.size:Int), .int .i64 2]) (by simp[results,results40,go_sem]) rfl ⟨⟨_,by rw[HK2.out], ?_⟩,HBw.out⟩
        rw[HK2.out];exact World.ownsRow_nil _ _ _ _
    · have hpos:(0:Int)<(p.l.length:Int):=by have:=Ycw.2 hl;omega
      have HS:=Zhd (Zwv w2.heap.size w2.heap.size s.size p wr HP.out hBs HG.out.len);unfold Ztj at HS;have HL:=Zhd HP.out.len
      have c0: ∃ Al' cl',wr.cell? ⟨w2.heap.size,0,none⟩=some (.slice Al' p.l.length cl'):=by
       obtain⟨Al',cl',vn,vo,hp⟩:=HP.out;exact⟨Al',cl',hp.cells.1⟩
      obtain⟨Al',cl',c0⟩:=c0;by_cases hes:(stB s.size p).2.1=0
      · have HN:=Zhd (Zvs HG.out hl hes);have HQ2:Hid (goB s.size (stB s.size p).2.2.l.length (stB s.size p).2.2=G):=by show _=_;rw[←HQ.out,Zaqn HG.out hl hes]
        generalize stB s.size p=z at *;obtain⟨z1,z2,z3⟩:=z;simp only at hes HN HQ2 HS;subst hes;clear HP HG HQ hl;go_wp2_with fail;refine HS.out.mono ?_;rintro e w7 ⟨rfl,hp7,hb7⟩;have HP7:=Zhd hp7;have HB7:=Zhd (HB.out.trans hb7);have HL7:=Zhd hp7.len;clear HS hp7 hb7 c0;go_wp2;go_roundw
        case rel=>exact⟨z3,HP7,HN.out.1,HQ2,HB7⟩
        case measure=>rw[HL7.out,HL.out];exact HN.out.2
      · have HK:Hid (G=stB s.size p):=by show _=_;rw[←HQ.out,Zavh hl hes]
        have HK2:Hid (R=([],(stB s.size p).1,(stB s.size p).2.1)):=by show _=_;rw[HT.out,HK.out];simp[hes]
        have q2:((stB s.size p).2.1 !=0)=true:=by rw[bne_iff_ne];exact hes
        clear HT HK HQ;generalize stB s.size p=z at *;obtain⟨z1,z2,z3⟩:=z;simp only at HK2 HS q2;clear HP HG hl hes;go_wp2_with fail;refine HS.out.mono ?_;rintro e w7 ⟨rfl,hp7,hb7⟩;have HB7:=Zhd (Zaa HB2.out (HB.out.trans hb7));clear HS hp7 hb7 c0;go_wp2;refine bodyPost_ret (v:= .tuple #[.slice none 0 0, .int .i64 z1, .int .i64 z2]) (by simp[results,results40,go_sem]) rfl ⟨⟨_,by rw[HK2.out], ?_⟩,HB7.out⟩
        rw[HK2.out];exact World.ownsRow_nil _ _ _ _
 · have HK:Hid (R=([],(at_:Int),er)):=by show _=_;rw[HT.out,Yan he]
   have qe:(er !=0)=true:=by rw[bne_iff_ne];exact he
   clear HT he;go_wp2;refine bodyPost_ret (v:= .tuple #[.slice none 0 0, .int .i64 (at_:Int), .int .i64 er]) (by simp[results,results40,go_sem]) rfl ⟨⟨_,by rw[HK.out], ?_⟩,HB2.out⟩
   rw[HK.out];exact World.ownsRow_nil _ _ _ _
end Go.Proofs.Zq
namespace Edt
open Go Go.Lib Tre
def Zgx (L:List Line) (P:List ByteArray) (n:Nat):Bool:=match Zar L (P.take (n+1))with|some k=>bits .and .i64 (Zdv L k).mark 2 !=0|none=>false
def Zrg (L:List Line) (P:List ByteArray):Bool:=(List.range P.length).any (Zgx L P)
theorem Zali (L:List Line) (P:List ByteArray):Zrg L P=(List.range' 0 P.length).any (Zgx L P):=by unfold Zrg;rw[List.range_eq_range']
theorem Zalh {L:List Line} {P:List ByteArray} {k:Nat} (h:k<P.length):(List.range' k (P.length-k)).any (Zgx L P)=(Zgx L P k||(List.range' (k+1) (P.length-(k+1))).any (Zgx L P)):=by
 obtain⟨m,hm⟩: ∃ m,P.length-k=m+1:=⟨P.length-k-1,by omega⟩
 rw[hm,List.range'_succ,List.any_cons,show P.length-(k+1)=m by omega]
theorem Zalf {L:List Line} {P:List ByteArray} {k:Nat} (h:Zar L (P.take (k+1))=none):Zgx L P k=false:=by unfold Zgx;rw[h]
theorem Zalg {L:List Line} {P:List ByteArray} {k j:Nat} (h:Zar L (P.take (k+1))=some j) (hj:j<L.length):Zgx L P k=(bits .and .i64 L[j].mark 2 !=0):=by
 unfold Zgx;rw[h];simp only;rw[Zdm hj]
end Edt
namespace Go.Proofs.Zq
open Tryz
open Go Go.RowKit Go.Sort Tre Lx Prs Edt
theorem Zvy (A:Option Addr) (cap:Nat) (L:List Line) (Ap:Option Addr) (cp:Nat) (P:List ByteArray) (w:World) (hR:Rd w 3 A L.length (lines L)) (hcap:L.length≤cap) (hc:cap≤maxLen) (hr:Zab L=true) (hP:Rd w 1 Ap P.length (sv P)) (hcp:P.length≤cp) (hc2:cp≤maxLen):
 Calls prog 64 #[.slice A L.length cap, .slice Ap P.length cp] w fun e w'=>e= .returned (.bool (Zrg L P))∧Below w.heap.size w w':=by
 have HF:=Zhd (fun(n:Nat) (hn:n≤P.length) (W:World) (hb:Below w.heap.size w W)=>Zbq A cap L Ap cp (P.take n) W (hR.below hb) hcap hc hr (by rw[Yaf,Ybb hn];exact Zfy (hP.below hb) hn) (by rw[Yaf];omega) hc2)
 have HR:=Zhd hR;have HP:=Zhd hP;have HK0:=Zhd (Zali L P);have h200:=Zas hr;unfold maxLen at hc2 hc;obtain⟨z,hz⟩: ∃ z,Zrg L P=z:=⟨_,rfl⟩;rw[hz]at HK0⊢;clear hR hP hr hz;go_enter func64,ntmps64;go_wp2;go_loopw [10] (fun vi wr=> ∃ k:Nat,vi= .int .i64 k∧k≤P.length∧Hid (z=(List.range' k (P.length-k)).any (Zgx L P))∧Hid (Below w.heap.size w wr)) (fun vi _=>P.length-(intOf vi).toNat)
 case atStart=>exact⟨0,rfl,Yao _,HK0,Yae _ _⟩
 case round=>
  clear HK0;obtain⟨k,rfl,hk,HQ,HB⟩:=hrel;by_cases hlt:k<P.length
  · have HC:=Zhd (HF.out (k+1) hlt wr HB.out);have hlen:(P.take (k+1)).length=k+1:=by rw[Yaf];omega
    rw[hlen]at HC;have HS:Hid (z=(Zgx L P k||(List.range' (k+1) (P.length-(k+1))).any (Zgx L P))):=by show _=_;rw[HQ.out,Zalh hlt]
    have hi1:(k:Int)+1≤(cp:Int):=by omega
    have hi0:(0:Int)≤(k:Int)+1:=by omega
    obtain⟨ad,rfl,-,-⟩:=HP.out.2 (by omega)
    clear HQ hlen;cases hf:Zar L (P.take (k+1))with
    | none=>
      rw[hf]at HC;have HN:Hid (z=(List.range' (k+1) (P.length-(k+1))).any (Zgx L P)):=by show _=_;rw[HS.out,Zalf hf];rfl
      have HC2:Hid (Calls prog 47 #[.slice A L.length cap, .slice (some ad) (k+1) cp] wr fun e w'=>e= .returned (.tuple #[.int .i64 0, .bool false])∧Below wr.heap.size wr w'):=HC.out
      clear HS hf HC;go_wp2_with fail;refine HC2.out.mono ?_;rintro e w2 ⟨rfl,hb2⟩;have HB2:=Zhd (Zaa HB.out hb2);clear HC2 hb2 HB;go_wp2;go_roundw
      case rel=>exact⟨k+1,by go_num,by omega,HN,HB2⟩
      case measure=>simp[intOf];omega
    | some j=>
      rw[hf]at HC;have hj:=Zce hf;have HC2:Hid (Calls prog 47 #[.slice A L.length cap, .slice (some ad) (k+1) cp] wr fun e w'=>e= .returned (.tuple #[.int .i64 (j:Int), .bool true])∧Below wr.heap.size wr w'):=HC.out
      have HS2:=Zhd (Zalg hf hj);obtain⟨B,O,rfl,hab,hadd,-,-,y2⟩:=HR.out.line hj;have hj1:(j:Int)<(L.length:Int):=by omega
      have HY:Hid (∀ W,Below w.heap.size w W→W.cell? ⟨B,O+j*3+2,none⟩=some (.int .i64 L[j].mark)):=fun W hb=>(hb.cell (p:=⟨B,O+j*3+2,none⟩) hab).trans y2
      generalize L[j].mark=m at *;clear hf HC y2;cases hq:(bits .and .i64 m 2 !=0)with
      | true=>
        rw[hq]at HS2;have HN:Hid (z=true):=by show _=_;rw[HS.out,HS2.out];rfl
        clear HS HS2;go_wp2_with fail;refine HC2.out.mono ?_;rintro e w2 ⟨rfl,hb2⟩;have HB2:=Zhd (Zaa HB.out hb2);have y2:=HY.out w2 HB2.out;clear HC2 hb2 HB HY;go_wp2;go_ret;exact⟨by rw[HN.out];rfl,HB2.out⟩
      | false=>
        rw[hq]at HS2;have HN:Hid (z=(List.range' (k+1) (P.length-(k+1))).any (Zgx L P)):=by show _=_;rw[HS.out,HS2.out];rfl
        clear HS HS2;go_wp2_with fail;refine HC2.out.mono ?_;rintro e w2 ⟨rfl,hb2⟩;have HB2:=Zhd (Zaa HB.out hb2);have y2:=HY.out w2 HB2.out;clear HC2 hb2 HB HY;go_wp2;go_roundw
        case rel=>exact⟨k+1,by go_num,by omega,HN,HB2⟩
        case measure=>simp[intOf];omega
  · have hke:k=P.length:=by omega
    have HN:Hid (z=false):=by show _=_;rw[HQ.out,hke,Yep];rfl
    clear HQ;go_wp2;go_ret;exact⟨by rw[HN.out];rfl,HB.out⟩
end Go.Proofs.Zq
namespace Edt
open Go Go.Lib Tre
def Zow (L:List Line) (P:List ByteArray):Bool:=Zrg L P.dropLast
def Ztd (L:List Line) (P:List ByteArray):Int×Int×Int:=
 if P.length=0 then(0,0,1)else match Zar L P with|none=>(0,0,3)|some k=>((k:Int),(endB L k:Int),0)
theorem Znh {L:List Line} {P:List ByteArray} (h:P.length=0):Ztd L P=(0,0,1):=by unfold Ztd;rw[Yan h]
theorem Zkg {L:List Line} {P:List ByteArray} (h:P.length≠0) (hf:Zar L P=none):Ztd L P=(0,0,3):=by unfold Ztd;rw[Yad h,hf]
theorem Zkh {L:List Line} {P:List ByteArray} {k:Nat} (h:P.length≠0) (hf:Zar L P=some k):Ztd L P=((k:Int),(endB L k:Int),0):=by unfold Ztd;rw[Yad h,hf]
end Edt
namespace Go.Proofs.Zq
open Tryz
open Go Go.RowKit Go.Sort Tre Lx Prs Edt
theorem Zxf (A:Option Addr) (cap:Nat) (L:List Line) (Ap:Option Addr) (cp:Nat) (P:List ByteArray) (w:World) (hR:Rd w 3 A L.length (lines L)) (hcap:L.length≤cap) (hc:cap≤maxLen) (hr:Zab L=true) (hP:Rd w 1 Ap P.length (sv P)) (hcp:P.length≤cp) (hc2:cp≤maxLen) (h0:P.length≠0):
 Calls prog 69 #[.slice A L.length cap, .slice Ap P.length cp] w fun e w'=>e= .returned (.bool (Zow L P))∧Below w.heap.size w w':=by
 obtain⟨m,hm⟩: ∃ m,P.length=m+1:=⟨P.length-1,by omega⟩
 have hd:P.dropLast.length=m:=by rw[Yci];omega
 have ht:P.dropLast=P.take m:=by rw[Ydk,hm];rfl
 have hKe:=Zvy A cap L Ap cp P.dropLast w hR hcap hc hr (by rw[hd,ht];exact Zfy hP (by omega)) (by omega) hc2
 rw[hd]at hKe;have HK:=Zhd hKe;have hi1:(m:Int)≤(cp:Int):=by omega
 have hi0:(0:Int)≤(m:Int):=by omega
 unfold maxLen at hc2;have hm63:(m:Int)+1≤9223372036854775807:=by omega
 have hmx:max (m:Int) 0=m:=Int.max_eq_left hi0;obtain⟨ad,rfl,-,-⟩:=hP.2 (by omega)
 unfold Zow;generalize Zrg L P.dropLast=z at *;rw[hm];clear hKe hR hP hr hd ht hm hcp;go_enter func69,ntmps69;go_wp2_with fail;refine HK.out.mono ?_;rintro e w2 ⟨rfl,hb2⟩;go_wp2;go_ret;exact⟨rfl,hb2⟩
theorem Zpz (A:Option Addr) (cap:Nat) (L:List Line) (Ap:Option Addr) (cp:Nat) (P:List ByteArray) (w:World) (hR:Rd w 3 A L.length (lines L)) (hcap:L.length≤cap) (hc:cap≤maxLen) (hr:Zab L=true) (hP:Rd w 1 Ap P.length (sv P)) (hcp:P.length≤cp) (hc2:cp≤maxLen):
 Calls prog 65 #[.slice A L.length cap, .slice Ap P.length cp] w fun e w'=>e= .returned (.tuple #[.int .i64 (Ztd L P).1, .int .i64 (Ztd L P).2.1, .int .i64 (Ztd L P).2.2])∧Below w.heap.size w w':=by
 have hRi:=Zbg A cap L w hR hcap hc;rw[hr]at hRi;have HRi:=Zhd hRi;have HF:=Zhd (fun(W:World) (hb:Below w.heap.size w W)=>Zbq A cap L Ap cp P W (hR.below hb) hcap hc hr (hP.below hb) hcp hc2)
 have HE:=Zhd (fun(k:Nat) (hk:k<L.length) (W:World) (hb:Below w.heap.size w W)=>Zxt A cap L k W (hR.below hb) hcap hc hr hk)
 obtain⟨z,hz⟩: ∃ z,Ztd L P=z:=⟨_,rfl⟩;have HZ:=Zhd hz;rw[hz];clear hR hr hP hz hRi;by_cases h0:P.length=0
 · have HK:Hid (z=(0,0,1)):=by show _=_;rw[←HZ.out,Znh h0]
   rw[h0];clear HZ HF HE h0 hcp;go_enter func65,ntmps65;go_wp2_with fail;refine HRi.out.mono ?_;rintro e w2 ⟨rfl,hb2⟩;go_wp2;refine bodyPost_ret (v:= .tuple #[.int .i64 0, .int .i64 0, .int .i64 1]) (by simp[results,results65,go_sem]) rfl ⟨by rw[HK.out],hb2⟩
 · have hne:((P.length:Int)==0)=false:=by rw[Yai];omega
   cases hf:Zar L P with
   | none=>
     have HK:Hid (z=(0,0,3)):=by show _=_;rw[←HZ.out,Zkg h0 hf]
     rw[hf]at HF;have HF2:Hid (∀ W,Below w.heap.size w W→Calls prog 47 #[.slice A L.length cap, .slice Ap P.length cp] W fun e w'=>e= .returned (.tuple #[.int .i64 0, .bool false])∧Below W.heap.size W w'):=HF.out
     clear HZ HF HE hf;go_enter func65,ntmps65;go_wp2_with fail;refine HRi.out.mono ?_;rintro e w2 ⟨rfl,hb2⟩;have HC:=Zhd (HF2.out w2 hb2);have HB2:=Zhd hb2;clear hb2;go_wp2_with fail;refine HC.out.mono ?_;rintro e w3 ⟨rfl,hb3⟩;have HB3:=Zhd (Zaa HB2.out hb3);go_wp2;refine bodyPost_ret (v:= .tuple #[.int .i64 0, .int .i64 0, .int .i64 3]) (by simp[results,results65,go_sem]) rfl ⟨by rw[HK.out],HB3.out⟩
   | some k=>
     have hk:=Zce hf;have HK:Hid (z=((k:Int),(endB L k:Int),0)):=by show _=_;rw[←HZ.out,Zkh h0 hf]
     rw[hf]at HF;have HF2:Hid (∀ W,Below w.heap.size w W→Calls prog 47 #[.slice A L.length cap, .slice Ap P.length cp] W fun e w'=>e= .returned (.tuple #[.int .i64 (k:Int), .bool true])∧Below W.heap.size W w'):=HF.out
     have HE2:=Zhd (HE.out k hk);clear HZ HF HE hf;go_enter func65,ntmps65;go_wp2_with fail;refine HRi.out.mono ?_;rintro e w2 ⟨rfl,hb2⟩;have HC:=Zhd (HF2.out w2 hb2);have HB2:=Zhd hb2;clear hb2;go_wp2_with fail;refine HC.out.mono ?_;rintro e w3 ⟨rfl,hb3⟩;have HB3:=Zhd (Zaa HB2.out hb3);have HD:=Zhd (HE2.out w3 HB3.out);go_wp2_with fail;refine HD.out.mono ?_;rintro e w4 ⟨rfl,hb4⟩;have HB4:=Zhd (Zaa HB3.out hb4);go_wp2;refine bodyPost_ret (v:= .tuple #[.int .i64 (k:Int), .int .i64 (endB L k:Int), .int .i64 0]) (by simp[results,results65,go_sem]) rfl ⟨by rw[HK.out],HB4.out⟩
end Go.Proofs.Zq
namespace Edt
open Go Go.Lib Tre Prs
def Zer (l:Line):Bool:=bits .and .i64 l.mark 2 !=0
def Zse (L:List Line) (P:List ByteArray) (a e:Nat):Bool:=Zrg L P||((L.drop a).take (e-a)).any Zer
end Edt
namespace Go.Proofs.Zq
open Tryz
open Go Go.RowKit Go.Sort Tre Lx Prs Edt
theorem Zanu (l:Line) (w:World):
 Calls prog 111 #[.agg #[.int .i64 l.depth, .string l.word, .int .i64 l.mark]] w fun e w'=>e= .returned (.bool (Zer l))∧Below w.heap.size w w':=by
 have hb:=Zhd ((Yae w.heap.size w).alloc (Yag _) (.cells #[.int .i64 l.depth, .string l.word, .int .i64 l.mark] 62));unfold Zer;cases hq:(bits .and .i64 l.mark 2 !=0)with
 | true=>
   go_enter func111,ntmps111;go_wp2;go_ret;exact⟨rfl,hb.out⟩
 | false=>
   go_enter func111,ntmps111;go_wp2;go_ret;exact⟨rfl,hb.out⟩
theorem Zagw (A:Option Addr) (c:Nat) (L:List Line) (w:World) (hR:Rd w 3 A L.length (lines L)) (hL:L.length≤1000000):
 Calls prog 143 #[.slice A L.length c, .func (.func 111) #[] #[]] w fun e w'=>e= .returned (.int .i64 (Zbl Zer 0 L))∧Below w.heap.size w w':=by
 have HF:=Zhd (fun W (l:Line)=>Zanu l W)
 have HR:=Zhd hR;obtain⟨f,hf⟩: ∃ f,Zer=f:=⟨_,rfl⟩;rw[hf]at HF⊢;have HQ0:Hid (Zbl f 0 L=Zbl f 0 (L.drop 0)):=rfl;clear hR hf;go_enter func143,ntmps143;go_wp2;go_loopw [8] (fun vi wr=> ∃ k:Nat,k≤L.length∧vi= .int .i64 k∧Hid (Zbl f 0 L=Zbl f k (L.drop k))∧Hid (Below w.heap.size w wr)) (fun vi _=>L.length-(intOf vi).toNat)
 case atStart=>exact⟨0,Yao _,rfl,HQ0,Yae _ _⟩
 case round=>
  clear HQ0;obtain⟨k,hk,rfl,HQ,HB⟩:=hrel;by_cases hlt:k<L.length
  · obtain⟨b,o,rfl,hab,hadd,x0,x1,x2⟩:=(HR.out.below HB.out).line hlt;have HC:=Zhd (HF.out wr L[k]);have hst:Hid (Zbl f 0 L=if f L[k]then(k:Int)else Zbl f (k+1) (L.drop (k+1))):=HQ.out.trans (Zadq hlt)
    generalize L[k]=r at *;clear HQ;cases hf:f r with
    | true=>
      rw[hf]at hst HC;have HK:Hid (Zbl f 0 L=(k:Int)):=by show _=_;rw[hst.out];rfl
      clear hst hf;go_wp2_with fail;refine HC.out.mono ?_;rintro e w2 ⟨rfl,hb2⟩;have HB2:=Zhd (Zaa HB.out hb2);clear HC HB hb2 x0 x1 x2;go_wp2;go_ret;exact⟨Zci HK.out.symm,HB2.out⟩
    | false=>
      rw[hf]at hst HC;have HK:Hid (Zbl f 0 L=Zbl f (k+1) (L.drop (k+1))):=by show _=_;rw[hst.out];rfl
      clear hst hf;go_wp2_with fail;refine HC.out.mono ?_;rintro e w2 ⟨rfl,hb2⟩;have HB2:=Zhd (Zaa HB.out hb2);clear HC HB hb2 x0 x1 x2;go_wp2_with fail;go_roundw
      case rel=>exact⟨k+1,by omega,by go_num,HK,HB2⟩
      case measure=>simp[intOf];omega
  · have hke:k=L.length:=by omega
    have HK:Hid (Zbl f 0 L= -1):=by
     show _=_;rw[HQ.out,Ybe (by omega)];rfl
    clear HQ;go_wp2;go_ret;exact⟨Zci HK.out.symm,HB.out⟩
theorem Zuy (A:Option Addr) (c:Nat) (L:List Line) (w:World) (hR:Rd w 3 A L.length (lines L)) (hL:L.length≤1000000):
 Calls prog 110 #[.slice A L.length c, .func (.func 111) #[] #[]] w fun e w'=>e= .returned (.bool (L.any Zer))∧Below w.heap.size w w':=by
 have HI:=Zhd (Zagw A c L w hR hL);have HX:Hid (decide (0≤Zbl Zer 0 L)=L.any Zer):=Zaba _ _ _;clear hR;generalize Zbl Zer 0 L=z at *;go_enter func110,ntmps110;go_wp2_with fail;refine HI.out.mono ?_;rintro e w2 ⟨rfl,hb2⟩;go_wp2;go_ret;exact⟨by rw[←HX.out];rfl,hb2⟩
theorem Zaet (A:Option Addr) (cap:Nat) (L:List Line) (Ap:Option Addr) (cp:Nat) (P:List ByteArray) (n E:Nat) (w:World) (hR:Rd w 3 A L.length (lines L)) (hcap:L.length≤cap) (hc:cap≤maxLen) (hr:Zab L=true) (hP:Rd w 1 Ap P.length (sv P)) (hcp:P.length≤cp) (hc2:cp≤maxLen) (hn:n<L.length) (hnE1:n≤E) (hEL:E≤L.length):
 Calls prog 66 #[.slice A L.length cap, .slice Ap P.length cp, .int .i64 (n:Int), .int .i64 (E:Int)] w fun e w'=>e= .returned (.bool (Zse L P n E))∧Below w.heap.size w w':=by
 have HK:=Zhd (Zvy A cap L Ap cp P w hR hcap hc hr hP hcp hc2);obtain⟨B,O,rfl,hab,hadd,-,-,-⟩:=hR.line hn;have h200:=Zas hr;have hMR:Rd w 3 (some ⟨B,O+n*3,none⟩) (E-n) (lines ((L.drop n).take (E-n))):=Zwm (by rw[Yam];exact Zrz hR (Yeb hn)) (by rw[Yam];omega)
 have hMl:((L.drop n).take (E-n)).length=E-n:=by rw[Yaf,Yam];omega
 unfold maxLen at hc;have hsub:(E:Int)-(n:Int)=((E-n:Nat):Int):=by omega
 have hsub2:(cap:Int)-(n:Int)=((cap-n:Nat):Int):=by omega
 have hnE:(n:Int)≤(E:Int):=by omega
 have hEc:(E:Int)≤(cap:Int):=by omega
 have hnc: ¬ (cap=n):=by omega
 have hnc2: ¬ (n=cap):=by omega
 unfold Zse
 have HC:Hid (∀ W,Below w.heap.size w W→Calls prog 110 #[.slice (some ⟨B,O+n*3,none⟩) (E-n) (cap-n), .func (.func 111) #[] #[]] W fun e w'=>e= .returned (.bool (((L.drop n).take (E-n)).any Zer))∧Below W.heap.size W w'):=fun W hb=>by
  have h:=Zuy (some ⟨B,O+n*3,none⟩) (cap-n) ((L.drop n).take (E-n)) W (by rw[hMl];exact hMR.below hb) (by omega)
  rw[hMl]at h;exact h
 generalize ((L.drop n).take (E-n)).any Zer=y at *;clear hR hMR hMl hr hP hn;cases hz:Zrg L P with
 | true=>
   rw[hz]at HK;clear hz HC;go_enter func66,ntmps66;go_wp2_with fail;refine HK.out.mono ?_;rintro e w2 ⟨rfl,hb2⟩;go_wp2;go_ret;exact⟨rfl,hb2⟩
 | false=>
   rw[hz]at HK;clear hz;go_enter func66,ntmps66;go_wp2_with fail;refine HK.out.mono ?_;rintro e w2 ⟨rfl,hb2⟩;have HC2:=Zhd (HC.out w2 hb2);have HB2:=Zhd hb2;clear hb2;go_wp2_with fail;refine HC2.out.mono ?_;rintro e w3 ⟨rfl,hb3⟩;have HB3:=Zhd (Zaa HB2.out hb3);go_wp2;go_ret;exact⟨rfl,HB3.out⟩
end Go.Proofs.Zq
namespace Edt
open Go Go.Lib Tre Lns
def setB (L:List Line) (P:List ByteArray):List Line×Int:=
 if(addB L P).2≠0 then(L,(addB L P).2)else if Zrg L P then(L,12)else((addB L P).1,0)
end Edt
namespace Go.Proofs.Zq
open Tryz
open Go Go.RowKit Go.Sort Tre Lx Prs Lns Edt
theorem Zuq (A:Option Addr) (cap:Nat) (L:List Line) (Ap:Option Addr) (cp:Nat) (P:List ByteArray) (w:World) (hR:Rd w 3 A L.length (lines L)) (hcap:L.length≤cap) (hc:cap≤maxLen) (hnil:A=none→cap=0) (hr:Zab L=true) (hP:Rd w 1 Ap P.length (sv P)) (hcp:P.length≤cp) (hc2:cp≤maxLen) (hlP:P.length≤1000000):
 Calls prog 58 #[.slice A L.length cap, .slice Ap P.length cp] w (Zje L P w):=by
 cases hs:Zem P with
 | true=>
   by_cases h16:P.length≤16
   · exact Zaul A cap L Ap cp P w hR hcap hc hnil hr hP hcp hc2 hs h16
   · have HK:Hid (addB L P=(L,6)):=by
      show _=_;unfold addB;rw[Yad (by rw[hr,hs];simp),Yan (by omega)]
     have HRi:=Zbg A cap L w hR hcap hc;rw[hr]at HRi;have HRg:=Zhd HRi
     have HSo:Hid (∀ W,Below w.heap.size w W→Calls prog 93 #[.slice Ap P.length cp] W fun e w'=>e= .returned (.bool true)∧w'=W):=fun W hb=>by
      have:=Zlg Ap cp P W (hP.below hb) hlP
      rwa [hs]at this
     have hg16:(16:Int)<(P.length:Int):=by omega
     have HRd:=Zhd hR;have HNl:=Zhd hnil;unfold Zje;rw[HK.out];clear HRi hR hP hr hs HK hnil;go_enter func58,ntmps58;go_wp2_with fail;refine HRg.out.mono ?_;rintro e w1 ⟨rfl,hb1⟩;have HB1:=Zhd hb1;clear hb1 HRg;go_wp2_with fail;refine(HSo.out w1 HB1.out).mono ?_;rintro e w2 ⟨rfl,rfl⟩;go_wp2;go_ret2;exact⟨_,_,rfl,hcap,hc,HRd.out.below HB1.out,HNl.out,HB1.out⟩
 | false=>
   have HK:Hid (addB L P=(L,1)):=by
    show _=_;unfold addB;rw[Yan (.inr hs)]
   have HRi:=Zbg A cap L w hR hcap hc;rw[hr]at HRi;have HRg:=Zhd HRi
   have HSo:Hid (∀ W,Below w.heap.size w W→Calls prog 93 #[.slice Ap P.length cp] W fun e w'=>e= .returned (.bool false)∧w'=W):=fun W hb=>by
    have:=Zlg Ap cp P W (hP.below hb) hlP
    rwa [hs]at this
   have HRd:=Zhd hR;have HNl:=Zhd hnil;unfold Zje;rw[HK.out];clear HRi hR hP hr hs HK hnil;go_enter func58,ntmps58;go_wp2_with fail;refine HRg.out.mono ?_;rintro e w1 ⟨rfl,hb1⟩;have HB1:=Zhd hb1;clear hb1 HRg;go_wp2_with fail;refine(HSo.out w1 HB1.out).mono ?_;rintro e w2 ⟨rfl,rfl⟩;go_wp2;go_ret2;exact⟨_,_,rfl,hcap,hc,HRd.out.below HB1.out,HNl.out,HB1.out⟩
def Zhc (M:List Line×Int) (w:World) (e:Ending) (w':World):Prop:=
 (∃ v,e= .returned (.tuple #[v, .int .i64 M.2])∧Lr w' v M.1)∧Below w.heap.size w w'
theorem Zawn (A:Option Addr) (cap:Nat) (L:List Line) (Ap:Option Addr) (cp:Nat) (P:List ByteArray) (w:World) (hR:Rd w 3 A L.length (lines L)) (hcap:L.length≤cap) (hc:cap≤maxLen) (hnil:A=none→cap=0) (hr:Zab L=true) (hP:Rd w 1 Ap P.length (sv P)) (hcp:P.length≤cp) (hc2:cp≤maxLen) (hlP:P.length≤1000000):
 Calls prog 35 #[.slice A L.length cap, .slice Ap P.length cp] w (Zhc (setB L P) w):=by
 have HA:=Zhd (Zuq A cap L Ap cp P w hR hcap hc hnil hr hP hcp hc2 hlP);have HK:=Zhd (fun(W:World) (hb:Below w.heap.size w W)=>Zvy A cap L Ap cp P W (hR.below hb) hcap hc hr (hP.below hb) hcp hc2)
 have HL:Hid (∀ W,Below w.heap.size w W→Lr W (.slice A L.length cap) L):=fun W hb=>⟨A,cap,rfl,hcap,hc,hR.below hb,hnil⟩
 unfold Zje at HA;obtain⟨z,hz⟩: ∃ z,setB L P=z:=⟨_,rfl⟩;have HZ:Hid (z=if(addB L P).2≠0 then(L,(addB L P).2)else if Zrg L P then(L,12)else((addB L P).1,0)):=hz.symm
 unfold Zhc;rw[hz];obtain⟨a,ha⟩: ∃ a,addB L P=a:=⟨_,rfl⟩;rw[ha]at HA HZ;obtain⟨M,er⟩:=a;simp only at HA HZ;clear hz hR hP hr ha;go_enter func35,ntmps35;go_wp2_with fail;refine HA.out.mono ?_;rintro e w1 ⟨A1,c1,rfl,h1,h2,h3,h4,hb1⟩;have HM:Hid (Lr w1 (.slice A1 M.length c1) M):=⟨A1,c1,rfl,h1,h2,h3,h4⟩;have HB1:=Zhd hb1;clear h1 h2 h3 h4 hb1 HA;by_cases he:er=0
 · subst he;have qe:((0:Int)!=0)=false:=rfl;have HC:=Zhd (HK.out w1 HB1.out);cases hk:Zrg L P with
   | true=>
     rw[hk]at HC HZ;have HZ2:Hid (z=(L,12)):=by show _=_;rw[HZ.out];rfl
     clear HZ HK hk;go_wp2_with fail;refine HC.out.mono ?_;rintro e w2 ⟨rfl,hb2⟩;have HB2:=Zhd (Zaa HB1.out hb2);go_wp2;go_ret2;rw[HZ2.out];exact⟨⟨_,rfl,HL.out _ HB2.out⟩,HB2.out⟩
   | false=>
     rw[hk]at HC HZ;have HZ2:Hid (z=(M,0)):=by show _=_;rw[HZ.out];rfl
     clear HZ HK hk;go_wp2_with fail;refine HC.out.mono ?_;rintro e w2 ⟨rfl,hb2⟩;have HM2:=Zhd (HM.out.below hb2);have HB2:=Zhd (Zaa HB1.out hb2);go_wp2;go_ret2;rw[HZ2.out];exact⟨⟨_,rfl,HM2.out⟩,HB2.out⟩
 · have HZ2:Hid (z=(L,er)):=by show _=_;rw[HZ.out,Yan he]
   have qe:(er !=0)=true:=by rw[bne_iff_ne];exact he
   clear HZ HK he;go_wp2;go_ret2;rw[HZ2.out];exact⟨⟨_,rfl,HL.out _ HB1.out⟩,HB1.out⟩
theorem Zkk (w:World) (t e ty:TypeId) (z:Value) (ht:prog.underlying t=some (.slice e)) (hv: ∀ w,(zeroValue e).run prog w= .ok z w) (b o n c:Nat) (hn:0<n)
 (hc: ∀ j,j<(Builtin.zeroCells z.cells n).toList.length→(w.cell? ⟨b,o+j,none⟩).isSome=true) (hf: ∀ j,j<(Builtin.zeroCells z.cells n).toList.length→w.frozen? ⟨b,o+j,none⟩=false) (h1: ∀ u∈(Builtin.zeroCells z.cells n).toList,u.oneCell'=true):
 (Builtin.clear_ #[t] ty #[.slice (some ⟨b,o,none⟩) n c]).run prog w= .ok (.tuple #[]) (w.setCells b o (Builtin.zeroCells z.cells n).toList):=by
 have hst:=run_storeCells_cells (P:=prog) b o (Builtin.zeroCells z.cells n).toList 0 w (by simpa using hc) (by simpa using hf) h1
 simp only[Yef]at hst;obtain⟨m,rfl⟩: ∃ m,n=m+1:=⟨n-1,by omega⟩
 simp[Builtin.clear_,run_underlying ht,hv,hst]
theorem Zxb (w:World):(zeroValue 62).run prog w= .ok (.agg #[.int .i64 0, .string ⟨#[]⟩, .int .i64 0]) w:=by
 obtain⟨i0,hii,hz0,hz1,hz2⟩:=info_parts Zkv;simp[zeroValue,typeInfo,hii,hz0]
theorem Zail (n:Nat):(Builtin.zeroCells (Value.agg #[.int .i64 0, .string ⟨#[]⟩, .int .i64 0]).cells n).toList.length=n*3∧ ∀ u∈(Builtin.zeroCells (Value.agg #[.int .i64 0, .string ⟨#[]⟩, .int .i64 0]).cells n).toList,u.oneCell'=true:=by
 refine⟨by rw[Yav];simp[Builtin.zeroCells,Value.cells],fun u hu=> ?_⟩
 have hz:(Value.agg #[.int .i64 0, .string ⟨#[]⟩, .int .i64 0]).cells= #[.int .i64 0, .string ⟨#[]⟩, .int .i64 0]:=rfl;rw[hz]at hu;simp only[Builtin.zeroCells]at hu;simp at hu;obtain⟨q,-,rfl⟩:=hu;have:q%3=0∨q%3=1∨q%3=2:=by omega
 rcases this with h|h|h<;>simp[h,Value.oneCell']
theorem Zak {B:Nat} {w0:World} {g:Nat} (hg:B≤g): ∀ (vs:List Value) (o:Nat) {W:World},Below B w0 W→Below B w0 (W.setCells g o vs)
 | [],_,_,h=>h
 |v::r,o,_,h=>Zak hg r (o+1) (h.setCell (p:=⟨g,o,none⟩) hg v)
theorem Zhi (b:Nat): ∀ (vs:List Value) (o:Nat) (W:World),(W.setCells b o vs).heap.size=W.heap.size
 | [],_,_=>rfl
 | v::r,o,W=>by
   rw[World.setCells,Zhi b r];simp
theorem Zjg (b:Nat) (x:Addr): ∀ (vs:List Value) (o:Nat) (W:World),(W.setCells b o vs).frozen? x=W.frozen? x
 | [],_,_=>rfl
 | v::r,o,W=>by
   rw[World.setCells,Zjg b x r];simp
theorem Zrm (M:List Line) (i:Nat):lines M=lines (M.take i)++lines (M.drop i):=by rw[←Zba,Ybh]
theorem Zlq (M:List Line) {i:Nat} (hi:i≤M.length):(lines (M.take i)).length=i*3:=by rw[Zad,Yaf,Ybb hi]
theorem Zwd (M:List Line) {i j:Nat} (hi:i≤M.length):lines (M.take i++M.drop j)=(lines M).take (i*3)++lines (M.drop j):=by
 rw[Zba,Zrm M i,Ydt (Zlq M hi)]
theorem Ztb (M:List Line) {j:Nat} (hj:j≤M.length):lines (M.drop j)=(lines M).drop (j*3):=by
 rw[Zrm M j,List.drop_left' (Zlq M hj)]
theorem Zaxo {w:World} {g i j q:Nat} {M:List Line} {zs:List Value} (hi:i≤j) (hj:j≤M.length) (_:zs.length=(M.length-(i+(M.length-j)))*3)
 (hc: ∀ k u,(lines M)[k]?=some u→w.cell? ⟨g,k,none⟩=some u) (hg:g<w.heap.size):
 Rd ((((w.drewN q).setCells g (i*3) (lines (M.drop j))).setCells g ((i+(M.length-j))*3) zs)) 3 (some ⟨g,0,none⟩) (i+(M.length-j)) (lines (M.take i++M.drop j)):=by
 have hll:=Zad M;have hdl:(lines (M.drop j)).length=(M.length-j)*3:=by rw[Zad,Yam]
 refine⟨by rw[Zad,Yak,Yaf,Yam,Ybb (by omega)],fun _=>⟨_,rfl,by rw[Zhi,Zhi];exact hg,fun k u hu=> ?_⟩⟩
 rw[Zag,Ybj];have hk:k<(lines (M.take i++M.drop j)).length:=(Yba.1 hu).1;rw[Zad,Yak,Yaf,Yam,Ybb (by omega)]at hk
 rw[World.cell?_setCells_out g zs _ _ ⟨g,k,none⟩ (fun _ _=> .inl (by show k<_;omega))]
 rw[Zwd M (by omega)]at hu
 by_cases h:k<i*3
 · rw[Yca (by rw[Yaf];omega),Ycp,Yan h]at hu
   rw[World.cell?_setCells_out g _ _ _ ⟨g,k,none⟩ (fun _ _=> .inl h)]
   exact hc k u hu
 · rw[Ybi (by rw[Yaf];omega),Yaf,Ybb (by omega)]at hu
   have h2:k-i*3<(lines (M.drop j)).length:=(Yba.1 hu).1
   have h3:=World.cell?_setCells_in g (lines (M.drop j)) (i*3) (w.drewN q) (fun t ht=>by
    rw[hdl]at ht;have hlt:i*3+t<(lines M).length:=by omega
    have:=hc (i*3+t) _ (Yaj hlt);show(w.cell? _).isSome=true;rw[this];rfl) (k-i*3) h2
   rw[show i*3+(k-i*3)=k by omega]at h3
   rw[h3,←Yaj h2,hu]
def Zti (g cap i j base:Nat) (M:List Line) (w:World) (e:Ending) (w':World):Prop:=
 e= .returned (.slice (some ⟨g,0,none⟩) (i+(M.length-j)) cap)∧Rd w' 3 (some ⟨g,0,none⟩) (i+(M.length-j)) (lines (M.take i++M.drop j))∧Below base w w'
theorem Zajz (g cap i j base:Nat) (M:List Line) (w:World) (ho:w.ownsRow base 62 3 (.slice (some ⟨g,0,none⟩) M.length cap) M.length (lines M)) (hi:i<j) (hj:j≤M.length) (hcap:M.length≤cap) (hcm:cap≤maxLen) (hM:M.length≤1000000):
 Calls prog 67 #[.slice (some ⟨g,0,none⟩) M.length cap, .int .i64 (i:Int), .int .i64 (j:Int)] w (Zti g cap i j base M w):=by
 obtain⟨hbg,hgl⟩:=ho.lt g rfl;have hll:=Zad M
 have hc: ∀ k u,(lines M)[k]?=some u→w.cell? ⟨g,k,none⟩=some u:=fun k u hu=>by
  have hk:=(Yba.1 hu).1;rw[ho.cellAt k (by omega)];exact hu
 have hfr: ∀ k,w.frozen? ⟨g,k,none⟩=false:=fun k=>ho.frozenAt k
 obtain⟨i0,hii,hz0,hz1,hz2⟩:=info_parts Zkv;have hzl:=Zail (M.length-(i+(M.length-j)));have HD:Hid (∀ q,Rd ((((w.drewN q).setCells g (i*3) (lines (M.drop j))).setCells g ((i+(M.length-j))*3) (Builtin.zeroCells (Value.agg #[.int .i64 0, .string ⟨#[]⟩, .int .i64 0]).cells (M.length-(i+(M.length-j)))).toList)) 3 (some ⟨g,0,none⟩) (i+(M.length-j)) (lines (M.take i++M.drop j))):=fun q=>Zaxo (by omega) hj hzl.1 hc hgl
 have hcl: ∀ q ty,(Builtin.clear_ #[26] ty #[.slice (some ⟨g,(i+(M.length-j))*3,none⟩) (M.length-(i+(M.length-j))) (cap-(i+(M.length-j)))]).run prog ((w.drewN q).setCells g (i*3) (lines (M.drop j)))= .ok (.tuple #[]) (((w.drewN q).setCells g (i*3) (lines (M.drop j))).setCells g ((i+(M.length-j))*3) (Builtin.zeroCells (Value.agg #[.int .i64 0, .string ⟨#[]⟩, .int .i64 0]).cells (M.length-(i+(M.length-j)))).toList):=fun q ty=>
  Zkk _ 26 62 ty _ underlying26 Zxb g _ _ _ (by omega)
   (fun k hk=>by
    rw[hzl.1]at hk;rw[World.cell?_setCells_out g _ _ _ ⟨g,_,none⟩ (fun _ _=> .inr (by rw[Zad,Yam];show _≤(i+(M.length-j))*3+k;omega))]
    have hlt:(i+(M.length-j))*3+k<(lines M).length:=by omega
    show(w.cell? _).isSome=true;rw[hc _ _ (Yaj hlt)];rfl)
   (fun k hk=>by rw[Zjg];exact hfr _) hzl.2
 have HB:Hid (∀ q,Below base w ((((w.drewN q).setCells g (i*3) (lines (M.drop j))).setCells g ((i+(M.length-j))*3) (Builtin.zeroCells (Value.agg #[.int .i64 0, .string ⟨#[]⟩, .int .i64 0]).cells (M.length-(i+(M.length-j)))).toList))):=fun q=>Zak hbg _ _ (Zak hbg _ _ (Zan (Yae _ _) q))
 have hne:((i:Int)==(j:Int))=false:=by rw[Yai];omega
 have HCd:Hid (∀ k u,(lines (M.drop j))[k]?=some u→w.cell? ⟨g,j*3+k,none⟩=some u):=fun k u hu=>by
  rw[Ztb M hj,Ydb]at hu;exact hc _ _ hu
 have HSp:Hid (∀ q k,k<(lines (M.drop j)).length→((w.drewN q).cell? ⟨g,i*3+k,none⟩).isSome=true∧(w.drewN q).frozen? ⟨g,i*3+k,none⟩=false):=fun q k hk=>by
  rw[Zad,Yam]at hk;have hlt:i*3+k<(lines M).length:=by omega
  refine⟨?_,hfr _⟩;show(w.cell? _).isSome=true;rw[hc _ _ (Yaj hlt)];rfl
 have hdl:(lines (M.drop j)).length=(M.length-j)*3:=by rw[Zad,Yam]
 have HLc:=Zhd (Ziv (M.drop j));unfold maxLen at hcm;have f1:(i:Int)≤(j:Int):=by omega
 have f2:(j:Int)≤(M.length:Int):=by omega
 have f3:(M.length:Int)≤(cap:Int):=by omega
 have f4:(j:Int)-(i:Int)=((j-i:Nat):Int):=by omega
 have f5:(M.length:Int)-(j:Int)=((M.length-j:Nat):Int):=by omega
 have f6:(M.length:Int)-(i:Int)=((M.length-i:Nat):Int):=by omega
 have f7:(cap:Int)-(j:Int)=((cap-j:Nat):Int):=by omega
 have f8:(i:Int)≤(cap:Int):=by omega
 have f9: ¬ (M.length=i):=by omega
 obtain⟨r,hr⟩: ∃ r,i+(M.length-j)=r:=⟨_,rfl⟩;have hri:(i:Int)+((M.length-j:Nat):Int)=(r:Int):=by omega
 have g1:(r:Int)≤(M.length:Int):=by omega
 have g2:(M.length:Int)-(r:Int)=((M.length-r:Nat):Int):=by omega
 have g3:(cap:Int)-(r:Int)=((cap-r:Nat):Int):=by omega
 have g4: ¬ (cap=r):=by omega
 have g5: ¬ (r=cap):=by omega
 have g6:r≤cap:=by omega
 rw[hr]at HD hcl HB;obtain⟨w9,hw9⟩: ∃ w9,w.drew.setCells g (0+i*3) (lines (M.drop j))=w9:=⟨_,rfl⟩;obtain⟨w10,hw10⟩: ∃ w10,w9.setCells g (r*3) (Builtin.zeroCells (Value.agg #[.int .i64 0, .string ⟨#[]⟩, .int .i64 0]).cells (M.length-r)).toList=w10:=⟨_,rfl⟩
 have hcl9: ∀ ty,(Builtin.clear_ #[26] ty #[.slice (some ⟨g,r*3,none⟩) (M.length-r) (cap-r)]).run prog w9= .ok (.tuple #[]) w10:=fun ty=>by
  rw[←hw10,←hw9,Ybj];exact hcl 1 ty
 have HE:Hid (Zti g cap i j base M w (.returned (.slice (some ⟨g,0,none⟩) r cap)) w10):=by
  show Zti _ _ _ _ _ _ _ _ _;unfold Zti;rw[hr,←hw10,←hw9,Ybj];exact⟨rfl,HD.out 1,HB.out 1⟩
 clear ho hc hfr hzl hll hcl HD HB hw10;by_cases hjc:j=cap
 · have hjM:j=M.length:=by omega
   subst hjM;subst hjc;have hri2:r=i:=by omega
   subst hri2;have hd0:lines (M.drop M.length)= []:=by rw[Ydi];rfl
   have hw0:w.drew=w9:=by rw[←hw9,hd0];rfl
   have hf2: ¬ (r=M.length):=by omega
   clear hw9 hd0 hr hri HSp HCd HLc hdl f4 f5 f6 f7 g2 g3 g4 g5 hcap f3;have f6:(M.length:Int)-(r:Int)=((M.length-r:Nat):Int):=by omega
   go_enter func67,ntmps67;go_upto_region 5 with fail
   go_region_law ((refine step_append_room rfl _ _ 26 rfl 62 i0 3 underlying26 hii hz1 g 0 r M.length (by rfl) ⟨g,0,none⟩ 0 0 [] (by rfl) rfl (fun k u hu=>by cases hu) (fun u hu=>by cases hu) (by omega) (fun k hk=>absurd hk (Yeq _)) ?_;change _ w.drew;rw[hw0]))
   all_goals go_wp2
   all_goals go_ret
   all_goals exact HE.out
 · have hjc2: ¬ (cap=j):=fun e=>hjc e.symm
   go_enter func67,ntmps67;go_upto_region 5 with fail
   go_region_law ((refine step_append_room rfl _ _ 26 rfl 62 i0 3 underlying26 hii hz1 g 0 i cap (by rfl) ⟨g,j*3,none⟩ (M.length-j) (cap-j) (lines (M.drop j)) (by rfl) hdl (fun k u hu=>by rw[Zag];exact HCd.out k u hu) HLc.out (by omega) (fun k hk=>by rw[Ybj];exact HSp.out 1 k hk) ?_;rw[hw9,hr]))
   all_goals go_wp2
   all_goals go_ret
   all_goals exact HE.out
end Go.Proofs.Zq
namespace Edt
open Go Go.Lib Tre Lns
def delB (L:List Line) (P:List ByteArray):List Line×Int:=
 if P.length=0 then(L,1)else match Zar L P with
  |none=>(L,3)
  |some k=>if Zse L P k (endB L k)then(L,12)else(L.take k++L.drop (endB L k),0)
theorem Zavd {L:List Line} {P:List ByteArray} (h:P.length=0):delB L P=(L,1):=by unfold delB;rw[Yan h]
theorem Zapv {L:List Line} {P:List ByteArray} (h:P.length≠0) (hf:Zar L P=none):delB L P=(L,3):=by unfold delB;rw[Yad h,hf]
theorem Zapw {L:List Line} {P:List ByteArray} {k:Nat} (h:P.length≠0) (hf:Zar L P=some k) (hs:Zse L P k (endB L k)=true):delB L P=(L,12):=by unfold delB;rw[Yad h,hf];simp only;rw[Yan hs]
theorem Zavc {L:List Line} {P:List ByteArray} {k:Nat} (h:P.length≠0) (hf:Zar L P=some k) (hs:Zse L P k (endB L k)=false):delB L P=(L.take k++L.drop (endB L k),0):=by unfold delB;rw[Yad h,hf];simp only;rw[Yad (by rw[hs];simp)]
end Edt
namespace Go.Proofs.Zq
open Tryz
open Go Go.RowKit Go.Sort Tre Lx Prs Lns Edt
theorem Zagf (A:Option Addr) (cap:Nat) (L:List Line) (Ap:Option Addr) (cp:Nat) (P:List ByteArray) (w:World) (hR:Rd w 3 A L.length (lines L)) (hcap:L.length≤cap) (hc:cap≤maxLen) (hnil:A=none→cap=0) (hr:Zab L=true) (hP:Rd w 1 Ap P.length (sv P)) (hcp:P.length≤cp) (hc2:cp≤maxLen):
 Calls prog 36 #[.slice A L.length cap, .slice Ap P.length cp] w (Zhc (delB L P) w):=by
 have HPa:=Zhd (Zpz A cap L Ap cp P w hR hcap hc hr hP hcp hc2);have HL:Hid (∀ W,Below w.heap.size w W→Lr W (.slice A L.length cap) L):=fun W hb=>⟨A,cap,rfl,hcap,hc,hR.below hb,hnil⟩
 have h200:=Zas hr;obtain⟨z,hz⟩: ∃ z,delB L P=z:=⟨_,rfl⟩;have HZ:=Zhd hz;unfold Zhc;rw[hz];clear hz;by_cases h0:P.length=0
 · have HK:Hid (z=(L,1)):=by show _=_;rw[←HZ.out,Zavd h0]
   rw[Znh h0]at HPa;clear HZ hR hP hr h0;go_enter func36,ntmps36;go_wp2_with fail;refine HPa.out.mono ?_;rintro e w2 ⟨rfl,hb2⟩;go_wp2;go_ret2;rw[HK.out];exact⟨⟨_,rfl,HL.out _ hb2⟩,hb2⟩
 · cases hf:Zar L P with
   | none=>
     have HK:Hid (z=(L,3)):=by show _=_;rw[←HZ.out,Zapv h0 hf]
     rw[Zkg h0 hf]at HPa;clear HZ hR hP hr h0 hf;go_enter func36,ntmps36;go_wp2_with fail;refine HPa.out.mono ?_;rintro e w2 ⟨rfl,hb2⟩;go_wp2;go_ret2;rw[HK.out];exact⟨⟨_,rfl,HL.out _ hb2⟩,hb2⟩
   | some k=>
     have hk:=Zce hf;have he:=Zbc L k hk;rw[Zkh h0 hf]at HPa;have HS:=Zhd (fun(W:World) (hb:Below w.heap.size w W)=>Zaet A cap L Ap cp P k (endB L k) W (hR.below hb) hcap hc hr (hP.below hb) hcp hc2 hk (by omega) (by omega))
     have HCl:=Zhd (fun(W:World) (hb:Below w.heap.size w W)=>Zeh A cap L W (hR.below hb) hnil (by omega))
     unfold Zcd at HCl;cases hs:Zse L P k (endB L k)with
     | true=>
       have HK:Hid (z=(L,12)):=by show _=_;rw[←HZ.out,Zapw h0 hf hs]
       rw[hs]at HS;clear HZ hR hP hr h0 hf hs HCl;go_enter func36,ntmps36;go_wp2_with fail;refine HPa.out.mono ?_;rintro e w2 ⟨rfl,hb2⟩;have HS2:=Zhd (HS.out w2 hb2);have HB2:=Zhd hb2;clear hb2 HPa HS;go_wp2_with fail;refine HS2.out.mono ?_;rintro e w3 ⟨rfl,hb3⟩;have HB3:=Zhd (Zaa HB2.out hb3);go_wp2;go_ret2;rw[HK.out];exact⟨⟨_,rfl,HL.out _ HB3.out⟩,HB3.out⟩
     | false=>
       have HK:Hid (z=(L.take k++L.drop (endB L k),0)):=by show _=_;rw[←HZ.out,Zavc h0 hf hs]
       rw[hs]at HS;clear HZ hR hP hr h0 hf hs;generalize endB L k=E at *;go_enter func36,ntmps36;go_wp2_with fail;refine HPa.out.mono ?_;rintro e w2 ⟨rfl,hb2⟩;have HS2:=Zhd (HS.out w2 hb2);have HB2:=Zhd hb2;clear hb2 HPa HS;go_wp2_with fail;refine HS2.out.mono ?_;rintro e w3 ⟨rfl,hb3⟩;have HB3:=Zhd (Zaa HB2.out hb3);have HC3:=Zhd (HCl.out w3 HB3.out);clear hb3 HS2 HCl;go_wp2_with fail;refine HC3.out.mono ?_;rintro e w4 ⟨⟨v4,rfl,ho4⟩,hb4⟩;obtain⟨m,hm⟩: ∃ m,L.length=m+1:=⟨L.length-1,by omega⟩
       have ho4':=ho4;rw[hm]at ho4';obtain⟨q,cc,rfl⟩:=Zck ho4';rw[←hm]at ho4⊢;obtain⟨A4,c4,e4,hn4,hm4,-⟩:=Zbe ho4;obtain⟨rfl,rfl⟩:A4=some ⟨q,0,none⟩∧cc=c4:=by
        injection e4 with e1 _ e3
        exact⟨e1.symm,e3⟩
       have HD:=Zhd (Zajz q cc k E w3.heap.size L w4 ho4 (by omega) (by omega) hn4 hm4 (by omega))
       have HB4:=Zhd (Zaa HB3.out hb4);unfold Zti at HD;have hlen:(L.take k++L.drop E).length=k+(L.length-E):=by rw[Yak,Yaf,Yam];omega
       clear ho4 ho4' hm e4 hb4 HC3;have hz3:=HB3.out.size;go_wp2_with fail;refine HD.out.mono ?_;rintro e w5 ⟨rfl,hrd,hb5⟩;have HB5:=Zhd (HB4.out.trans (hb5.mono hz3));have HR5:Hid (Lr w5 (.slice (some ⟨q,0,none⟩) (k+(L.length-E)) cc) (L.take k++L.drop E)):=⟨_,cc,by rw[hlen],by rw[hlen];omega,hm4,by rw[hlen];exact hrd,fun h=>by cases h⟩
       clear hrd hb5 HD hlen;go_wp2;go_ret2;rw[HK.out];exact⟨⟨_,rfl,HR5.out⟩,HB5.out⟩
end Go.Proofs.Zq
