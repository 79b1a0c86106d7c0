import Derived.Test.YtkbojechhmmkcaaGreatDoorK18
set_option linter.unusedVariables false
set_option linter.unusedSimpArgs false
set_option maxHeartbeats 4000000
set_option maxRecDepth 100000
namespace Edt
open Go Go.Lib Tre Prs
def Zfn (l:Line):Bool:=bits .and .i64 l.mark 2 !=0
def Zuf (L:List Line) (P:List ByteArray) (a e:Nat):Bool:=Ztj L P||((L.drop a).take (e-a)).any Zfn
end Edt
namespace Go.Proofs.Zq
open Tryz
open Go Go.RowKit Go.Sort Tre Lx Prs Edt
theorem Zasd (l:Line) (w:World):
 Calls prog 111 #[.agg #[.int .i64 l.depth, .string l.word, .int .i64 l.mark]] w fun e w'=>e= .returned (.bool (Zfn l))∧Below w.heap.size w w':=by
 have hb:=Zhd ((Yag w.heap.size w).alloc (Yaf _) (.cells #[.int .i64 l.depth, .string l.word, .int .i64 l.mark] 62));unfold Zfn;cases hq:(bits .and .i64 l.mark 2 !=0)with
 | true=>
   go_enter func111,ntmps111;go_wp2;go_ret;exact⟨rfl,hb.out⟩
 | false=>
   go_enter func111,ntmps111;go_wp2;go_ret;exact⟨rfl,hb.out⟩
theorem Zakl (A:Option Addr) (c:Nat) (L:List Line) (w:World) (hR:Rd w 3 A L.length (lines L)) (hL:L.length≤1000000):
 Calls prog 143 #[.slice A L.length c, .func (.func 111) #[] #[]] w fun e w'=>e= .returned (.int .i64 (Zbu Zfn 0 L))∧Below w.heap.size w w':=by
 have HF:=Zhd (fun W (l:Line)=>Zasd l W)
 have HR:=Zhd hR;obtain⟨f,hf⟩: ∃ f,Zfn=f:=⟨_,rfl⟩;rw[hf]at HF⊢;have HQ0:Hid (Zbu f 0 L=Zbu f 0 (L.drop 0)):=rfl;clear hR hf;go_enter func143,ntmps143;go_wp2;go_loopw [8] (fun vi wr=> ∃ k:Nat,k≤L.length∧vi= .int .i64 k∧Hid (Zbu f 0 L=Zbu f k (L.drop k))∧Hid (Below w.heap.size w wr)) (fun vi _=>L.length-(intOf vi).toNat)
 case atStart=>exact⟨0,Yas _,rfl,HQ0,Yag _ _⟩
 case round=>
  clear HQ0;obtain⟨k,hk,rfl,HQ,HB⟩:=hrel;by_cases hlt:k<L.length
  · obtain⟨b,o,rfl,hab,hadd,x0,x1,x2⟩:=(HR.out.below HB.out).line hlt;have HC:=Zhd (HF.out wr L[k]);have hst:Hid (Zbu f 0 L=if f L[k]then(k:Int)else Zbu f (k+1) (L.drop (k+1))):=HQ.out.trans (Zagx hlt)
    generalize L[k]=r at *;clear HQ;cases hf:f r with
    | true=>
      rw[hf]at hst HC;have HK:Hid (Zbu f 0 L=(k:Int)):=by show _=_;rw[hst.out];rfl
      clear hst hf;go_wp2_with fail;refine HC.out.mono ?_;rintro e w2 ⟨rfl,hb2⟩;have HB2:=Zhd (Zaa HB.out hb2);clear HC HB hb2 x0 x1 x2;go_wp2;go_ret;exact⟨Zcb HK.out.symm,HB2.out⟩
    | false=>
      rw[hf]at hst HC;have HK:Hid (Zbu f 0 L=Zbu f (k+1) (L.drop (k+1))):=by show _=_;rw[hst.out];rfl
      clear hst hf;go_wp2_with fail;refine HC.out.mono ?_;rintro e w2 ⟨rfl,hb2⟩;have HB2:=Zhd (Zaa HB.out hb2);clear HC HB hb2 x0 x1 x2;go_wp2_with fail;go_roundw
      case rel=>exact⟨k+1,by omega,by go_num,HK,HB2⟩
      case measure=>simp[intOf];omega
  · have hke:k=L.length:=by omega
    have HK:Hid (Zbu f 0 L= -1):=by
     show _=_;rw[HQ.out,Ybe (by omega)];rfl
    clear HQ;go_wp2;go_ret;exact⟨Zcb HK.out.symm,HB.out⟩
theorem Zxp (A:Option Addr) (c:Nat) (L:List Line) (w:World) (hR:Rd w 3 A L.length (lines L)) (hL:L.length≤1000000):
 Calls prog 110 #[.slice A L.length c, .func (.func 111) #[] #[]] w fun e w'=>e= .returned (.bool (L.any Zfn))∧Below w.heap.size w w':=by
 have HI:=Zhd (Zakl A c L w hR hL);have HX:Hid (decide (0≤Zbu Zfn 0 L)=L.any Zfn):=Zaec _ _ _;clear hR;generalize Zbu Zfn 0 L=z at *;go_enter func110,ntmps110;go_wp2_with fail;refine HI.out.mono ?_;rintro e w2 ⟨rfl,hb2⟩;go_wp2;go_ret;exact⟨by rw[←HX.out];rfl,hb2⟩
theorem Zaid (A:Option Addr) (cap:Nat) (L:List Line) (Ap:Option Addr) (cp:Nat) (P:List ByteArray) (n E:Nat) (w:World) (hR:Rd w 3 A L.length (lines L)) (hcap:L.length≤cap) (hc:cap≤maxLen) (hr:Zab L=true) (hP:Rd w 1 Ap P.length (sv P)) (hcp:P.length≤cp) (hc2:cp≤maxLen) (hn:n<L.length) (hnE1:n≤E) (hEL:E≤L.length):
 Calls prog 66 #[.slice A L.length cap, .slice Ap P.length cp, .int .i64 (n:Int), .int .i64 (E:Int)] w fun e w'=>e= .returned (.bool (Zuf L P n E))∧Below w.heap.size w w':=by
 have HK:=Zhd (Zyn A cap L Ap cp P w hR hcap hc hr hP hcp hc2);obtain⟨B,O,rfl,hab,hadd,-,-,-⟩:=hR.line hn;have h200:=Zau hr;have hMR:Rd w 3 (some ⟨B,O+n*3,none⟩) (E-n) (lines ((L.drop n).take (E-n))):=Zzb (by rw[Yan];exact Zub hR (Yem hn)) (by rw[Yan];omega)
 have hMl:((L.drop n).take (E-n)).length=E-n:=by rw[Yah,Yan];omega
 unfold maxLen at hc;have hsub:(E:Int)-(n:Int)=((E-n:Nat):Int):=by omega
 have hsub2:(cap:Int)-(n:Int)=((cap-n:Nat):Int):=by omega
 have hnE:(n:Int)≤(E:Int):=by omega
 have hEc:(E:Int)≤(cap:Int):=by omega
 have hnc: ¬ (cap=n):=by omega
 have hnc2: ¬ (n=cap):=by omega
 unfold Zuf
 have HC:Hid (∀ W,Below w.heap.size w W→Calls prog 110 #[.slice (some ⟨B,O+n*3,none⟩) (E-n) (cap-n), .func (.func 111) #[] #[]] W fun e w'=>e= .returned (.bool (((L.drop n).take (E-n)).any Zfn))∧Below W.heap.size W w'):=fun W hb=>by
  have h:=Zxp (some ⟨B,O+n*3,none⟩) (cap-n) ((L.drop n).take (E-n)) W (by rw[hMl];exact hMR.below hb) (by omega)
  rw[hMl]at h;exact h
 generalize ((L.drop n).take (E-n)).any Zfn=y at *;clear hR hMR hMl hr hP hn;cases hz:Ztj L P with
 | true=>
   rw[hz]at HK;clear hz HC;go_enter func66,ntmps66;go_wp2_with fail;refine HK.out.mono ?_;rintro e w2 ⟨rfl,hb2⟩;go_wp2;go_ret;exact⟨rfl,hb2⟩
 | false=>
   rw[hz]at HK;clear hz;go_enter func66,ntmps66;go_wp2_with fail;refine HK.out.mono ?_;rintro e w2 ⟨rfl,hb2⟩;have HC2:=Zhd (HC.out w2 hb2);have HB2:=Zhd hb2;clear hb2;go_wp2_with fail;refine HC2.out.mono ?_;rintro e w3 ⟨rfl,hb3⟩;have HB3:=Zhd (Zaa HB2.out hb3);go_wp2;go_ret;exact⟨rfl,HB3.out⟩
end Go.Proofs.Zq
namespace Edt
open Go Go.Lib Tre Lns
def setB (L:List Line) (P:List ByteArray):List Line×Int:=
 if(addB L P).2≠0 then(L,(addB L P).2)else if Ztj L P then(L,12)else((addB L P).1,0)
end Edt
namespace Go.Proofs.Zq
open Tryz
open Go Go.RowKit Go.Sort Tre Lx Prs Lns Edt
theorem Zxf (A:Option Addr) (cap:Nat) (L:List Line) (Ap:Option Addr) (cp:Nat) (P:List ByteArray) (w:World) (hR:Rd w 3 A L.length (lines L)) (hcap:L.length≤cap) (hc:cap≤maxLen) (hnil:A=none→cap=0) (hr:Zab L=true) (hP:Rd w 1 Ap P.length (sv P)) (hcp:P.length≤cp) (hc2:cp≤maxLen) (hlP:P.length≤1000000):
 Calls prog 58 #[.slice A L.length cap, .slice Ap P.length cp] w (Zkm L P w):=by
 cases hs:Zfj P with
 | true=>
   by_cases h16:P.length≤16
   · exact Zbbd A cap L Ap cp P w hR hcap hc hnil hr hP hcp hc2 hs h16
   · have HK:Hid (addB L P=(L,6)):=by
      show _=_;unfold addB;rw[Yab (by rw[hr,hs];simp),Yam (by omega)]
     have HRi:=Zbm A cap L w hR hcap hc;rw[hr]at HRi;have HRg:=Zhd HRi
     have HSo:Hid (∀ W,Below w.heap.size w W→Calls prog 93 #[.slice Ap P.length cp] W fun e w'=>e= .returned (.bool true)∧w'=W):=fun W hb=>by
      have:=Zmx Ap cp P W (hP.below hb) hlP
      rwa [hs]at this
     have hg16:(16:Int)<(P.length:Int):=by omega
     have HRd:=Zhd hR;have HNl:=Zhd hnil;unfold Zkm;rw[HK.out];clear HRi hR hP hr hs HK hnil;go_enter func58,ntmps58;go_wp2_with fail;refine HRg.out.mono ?_;rintro e w1 ⟨rfl,hb1⟩;have HB1:=Zhd hb1;clear hb1 HRg;go_wp2_with fail;refine(HSo.out w1 HB1.out).mono ?_;rintro e w2 ⟨rfl,rfl⟩;go_wp2;go_ret2;exact⟨_,_,rfl,hcap,hc,HRd.out.below HB1.out,HNl.out,HB1.out⟩
 | false=>
   have HK:Hid (addB L P=(L,1)):=by
    show _=_;unfold addB;rw[Yam (.inr hs)]
   have HRi:=Zbm A cap L w hR hcap hc;rw[hr]at HRi;have HRg:=Zhd HRi
   have HSo:Hid (∀ W,Below w.heap.size w W→Calls prog 93 #[.slice Ap P.length cp] W fun e w'=>e= .returned (.bool false)∧w'=W):=fun W hb=>by
    have:=Zmx Ap cp P W (hP.below hb) hlP
    rwa [hs]at this
   have HRd:=Zhd hR;have HNl:=Zhd hnil;unfold Zkm;rw[HK.out];clear HRi hR hP hr hs HK hnil;go_enter func58,ntmps58;go_wp2_with fail;refine HRg.out.mono ?_;rintro e w1 ⟨rfl,hb1⟩;have HB1:=Zhd hb1;clear hb1 HRg;go_wp2_with fail;refine(HSo.out w1 HB1.out).mono ?_;rintro e w2 ⟨rfl,rfl⟩;go_wp2;go_ret2;exact⟨_,_,rfl,hcap,hc,HRd.out.below HB1.out,HNl.out,HB1.out⟩
def Zif (M:List Line×Int) (w:World) (e:Ending) (w':World):Prop:=
 (∃ v,e= .returned (.tuple #[v, .int .i64 M.2])∧Lr w' v M.1)∧Below w.heap.size w w'
theorem Zbdp (A:Option Addr) (cap:Nat) (L:List Line) (Ap:Option Addr) (cp:Nat) (P:List ByteArray) (w:World) (hR:Rd w 3 A L.length (lines L)) (hcap:L.length≤cap) (hc:cap≤maxLen) (hnil:A=none→cap=0) (hr:Zab L=true) (hP:Rd w 1 Ap P.length (sv P)) (hcp:P.length≤cp) (hc2:cp≤maxLen) (hlP:P.length≤1000000):
 Calls prog 35 #[.slice A L.length cap, .slice Ap P.length cp] w (Zif (setB L P) w):=by
 have HA:=Zhd (Zxf A cap L Ap cp P w hR hcap hc hnil hr hP hcp hc2 hlP);have HK:=Zhd (fun(W:World) (hb:Below w.heap.size w W)=>Zyn A cap L Ap cp P W (hR.below hb) hcap hc hr (hP.below hb) hcp hc2)
 have HL:Hid (∀ W,Below w.heap.size w W→Lr W (.slice A L.length cap) L):=fun W hb=>⟨A,cap,rfl,hcap,hc,hR.below hb,hnil⟩
 unfold Zkm at HA;obtain⟨z,hz⟩: ∃ z,setB L P=z:=⟨_,rfl⟩;have HZ:Hid (z=if(addB L P).2≠0 then(L,(addB L P).2)else if Ztj L P then(L,12)else((addB L P).1,0)):=hz.symm
 unfold Zif;rw[hz];obtain⟨a,ha⟩: ∃ a,addB L P=a:=⟨_,rfl⟩;rw[ha]at HA HZ;obtain⟨M,er⟩:=a;simp only at HA HZ;clear hz hR hP hr ha;go_enter func35,ntmps35;go_wp2_with fail;refine HA.out.mono ?_;rintro e w1 ⟨A1,c1,rfl,h1,h2,h3,h4,hb1⟩;have HM:Hid (Lr w1 (.slice A1 M.length c1) M):=⟨A1,c1,rfl,h1,h2,h3,h4⟩;have HB1:=Zhd hb1;clear h1 h2 h3 h4 hb1 HA;by_cases he:er=0
 · subst he;have qe:((0:Int)!=0)=false:=rfl;have HC:=Zhd (HK.out w1 HB1.out);cases hk:Ztj L P with
   | true=>
     rw[hk]at HC HZ;have HZ2:Hid (z=(L,12)):=by show _=_;rw[HZ.out];rfl
     clear HZ HK hk;go_wp2_with fail;refine HC.out.mono ?_;rintro e w2 ⟨rfl,hb2⟩;have HB2:=Zhd (Zaa HB1.out hb2);go_wp2;go_ret2;rw[HZ2.out];exact⟨⟨_,rfl,HL.out _ HB2.out⟩,HB2.out⟩
   | false=>
     rw[hk]at HC HZ;have HZ2:Hid (z=(M,0)):=by show _=_;rw[HZ.out];rfl
     clear HZ HK hk;go_wp2_with fail;refine HC.out.mono ?_;rintro e w2 ⟨rfl,hb2⟩;have HM2:=Zhd (HM.out.below hb2);have HB2:=Zhd (Zaa HB1.out hb2);go_wp2;go_ret2;rw[HZ2.out];exact⟨⟨_,rfl,HM2.out⟩,HB2.out⟩
 · have HZ2:Hid (z=(L,er)):=by show _=_;rw[HZ.out,Yam he]
   have qe:(er !=0)=true:=by rw[bne_iff_ne];exact he
   clear HZ HK he;go_wp2;go_ret2;rw[HZ2.out];exact⟨⟨_,rfl,HL.out _ HB1.out⟩,HB1.out⟩
theorem Zmb (w:World) (t e ty:TypeId) (z:Value) (ht:prog.underlying t=some (.slice e)) (hv: ∀ w,(zeroValue e).run prog w= .ok z w) (b o n c:Nat) (hn:0<n)
 (hc: ∀ j,j<(Builtin.zeroCells z.cells n).toList.length→(w.cell? ⟨b,o+j,none⟩).isSome=true) (hf: ∀ j,j<(Builtin.zeroCells z.cells n).toList.length→w.frozen? ⟨b,o+j,none⟩=false) (h1: ∀ u∈(Builtin.zeroCells z.cells n).toList,u.oneCell'=true):
 (Builtin.clear_ #[t] ty #[.slice (some ⟨b,o,none⟩) n c]).run prog w= .ok (.tuple #[]) (w.setCells b o (Builtin.zeroCells z.cells n).toList):=by
 have hst:=run_storeCells_cells (P:=prog) b o (Builtin.zeroCells z.cells n).toList 0 w (by simpa using hc) (by simpa using hf) h1
 simp only[Ydy]at hst;obtain⟨m,rfl⟩: ∃ m,n=m+1:=⟨n-1,by omega⟩
 simp[Builtin.clear_,run_underlying ht,hv,hst]
theorem Zzt (w:World):(zeroValue 62).run prog w= .ok (.agg #[.int .i64 0, .string ⟨#[]⟩, .int .i64 0]) w:=by
 obtain⟨i0,hii,hz0,hz1,hz2⟩:=info_parts Zml;simp[zeroValue,typeInfo,hii,hz0]
theorem Zame (n:Nat):(Builtin.zeroCells (Value.agg #[.int .i64 0, .string ⟨#[]⟩, .int .i64 0]).cells n).toList.length=n*3∧ ∀ u∈(Builtin.zeroCells (Value.agg #[.int .i64 0, .string ⟨#[]⟩, .int .i64 0]).cells n).toList,u.oneCell'=true:=by
 refine⟨by rw[Yau];simp[Builtin.zeroCells,Value.cells],fun u hu=> ?_⟩
 have hz:(Value.agg #[.int .i64 0, .string ⟨#[]⟩, .int .i64 0]).cells= #[.int .i64 0, .string ⟨#[]⟩, .int .i64 0]:=rfl;rw[hz]at hu;simp only[Builtin.zeroCells]at hu;simp at hu;obtain⟨q,-,rfl⟩:=hu;have:q%3=0∨q%3=1∨q%3=2:=by omega
 rcases this with h|h|h<;>simp[h,Value.oneCell']
theorem Zap {B:Nat} {w0:World} {g:Nat} (hg:B≤g): ∀ (vs:List Value) (o:Nat) {W:World},Below B w0 W→Below B w0 (W.setCells g o vs)
 | [],_,_,h=>h
 |v::r,o,_,h=>Zap hg r (o+1) (h.setCell (p:=⟨g,o,none⟩) hg v)
theorem Zim (b:Nat): ∀ (vs:List Value) (o:Nat) (W:World),(W.setCells b o vs).heap.size=W.heap.size
 | [],_,_=>rfl
 | v::r,o,W=>by
   rw[World.setCells,Zim b r];simp
theorem Zko (b:Nat) (x:Addr): ∀ (vs:List Value) (o:Nat) (W:World),(W.setCells b o vs).frozen? x=W.frozen? x
 | [],_,_=>rfl
 | v::r,o,W=>by
   rw[World.setCells,Zko b x r];simp
theorem Ztq (M:List Line) (i:Nat):lines M=lines (M.take i)++lines (M.drop i):=by rw[←Zbg,Ybk]
theorem Znf (M:List Line) {i:Nat} (hi:i≤M.length):(lines (M.take i)).length=i*3:=by rw[Zae,Yah,Yba hi]
theorem Zyr (M:List Line) {i j:Nat} (hi:i≤M.length):lines (M.take i++M.drop j)=(lines M).take (i*3)++lines (M.drop j):=by
 rw[Zbg,Ztq M i,Yea (Znf M hi)]
theorem Zvh (M:List Line) {j:Nat} (hj:j≤M.length):lines (M.drop j)=(lines M).drop (j*3):=by
 rw[Ztq M j,List.drop_left' (Znf M hj)]
theorem Zbgh {w:World} {g i j q:Nat} {M:List Line} {zs:List Value} (hi:i≤j) (hj:j≤M.length) (_:zs.length=(M.length-(i+(M.length-j)))*3)
 (hc: ∀ k u,(lines M)[k]?=some u→w.cell? ⟨g,k,none⟩=some u) (hg:g<w.heap.size):
 Rd ((((w.drewN q).setCells g (i*3) (lines (M.drop j))).setCells g ((i+(M.length-j))*3) zs)) 3 (some ⟨g,0,none⟩) (i+(M.length-j)) (lines (M.take i++M.drop j)):=by
 have hll:=Zae M;have hdl:(lines (M.drop j)).length=(M.length-j)*3:=by rw[Zae,Yan]
 refine⟨by rw[Zae,Yae,Yah,Yan,Yba (by omega)],fun _=>⟨_,rfl,by rw[Zim,Zim];exact hg,fun k u hu=> ?_⟩⟩
 rw[Zag,Ybi];have hk:k<(lines (M.take i++M.drop j)).length:=(Ybb.1 hu).1;rw[Zae,Yae,Yah,Yan,Yba (by omega)]at hk
 rw[World.cell?_setCells_out g zs _ _ ⟨g,k,none⟩ (fun _ _=> .inl (by show k<_;omega))]
 rw[Zyr M (by omega)]at hu
 by_cases h:k<i*3
 · rw[Ych (by rw[Yah];omega),Ycv,Yam h]at hu
   rw[World.cell?_setCells_out g _ _ _ ⟨g,k,none⟩ (fun _ _=> .inl h)]
   exact hc k u hu
 · rw[Ybm (by rw[Yah];omega),Yah,Yba (by omega)]at hu
   have h2:k-i*3<(lines (M.drop j)).length:=(Ybb.1 hu).1
   have h3:=World.cell?_setCells_in g (lines (M.drop j)) (i*3) (w.drewN q) (fun t ht=>by
    rw[hdl]at ht;have hlt:i*3+t<(lines M).length:=by omega
    have:=hc (i*3+t) _ (Yaj hlt);show(w.cell? _).isSome=true;rw[this];rfl) (k-i*3) h2
   rw[show i*3+(k-i*3)=k by omega]at h3
   rw[h3,←Yaj h2,hu]
def Zvo (g cap i j base:Nat) (M:List Line) (w:World) (e:Ending) (w':World):Prop:=
 e= .returned (.slice (some ⟨g,0,none⟩) (i+(M.length-j)) cap)∧Rd w' 3 (some ⟨g,0,none⟩) (i+(M.length-j)) (lines (M.take i++M.drop j))∧Below base w w'
theorem Zanu (g cap i j base:Nat) (M:List Line) (w:World) (ho:w.ownsRow base 62 3 (.slice (some ⟨g,0,none⟩) M.length cap) M.length (lines M)) (hi:i<j) (hj:j≤M.length) (hcap:M.length≤cap) (hcm:cap≤maxLen) (hM:M.length≤1000000):
 Calls prog 67 #[.slice (some ⟨g,0,none⟩) M.length cap, .int .i64 (i:Int), .int .i64 (j:Int)] w (Zvo g cap i j base M w):=by
 obtain⟨hbg,hgl⟩:=ho.lt g rfl;have hll:=Zae M
 have hc: ∀ k u,(lines M)[k]?=some u→w.cell? ⟨g,k,none⟩=some u:=fun k u hu=>by
  have hk:=(Ybb.1 hu).1;rw[ho.cellAt k (by omega)];exact hu
 have hfr: ∀ k,w.frozen? ⟨g,k,none⟩=false:=fun k=>ho.frozenAt k
 obtain⟨i0,hii,hz0,hz1,hz2⟩:=info_parts Zml;have hzl:=Zame (M.length-(i+(M.length-j)));have HD:Hid (∀ q,Rd ((((w.drewN q).setCells g (i*3) (lines (M.drop j))).setCells g ((i+(M.length-j))*3) (Builtin.zeroCells (Value.agg #[.int .i64 0, .string ⟨#[]⟩, .int .i64 0]).cells (M.length-(i+(M.length-j)))).toList)) 3 (some ⟨g,0,none⟩) (i+(M.length-j)) (lines (M.take i++M.drop j))):=fun q=>Zbgh (by omega) hj hzl.1 hc hgl
 have hcl: ∀ q ty,(Builtin.clear_ #[26] ty #[.slice (some ⟨g,(i+(M.length-j))*3,none⟩) (M.length-(i+(M.length-j))) (cap-(i+(M.length-j)))]).run prog ((w.drewN q).setCells g (i*3) (lines (M.drop j)))= .ok (.tuple #[]) (((w.drewN q).setCells g (i*3) (lines (M.drop j))).setCells g ((i+(M.length-j))*3) (Builtin.zeroCells (Value.agg #[.int .i64 0, .string ⟨#[]⟩, .int .i64 0]).cells (M.length-(i+(M.length-j)))).toList):=fun q ty=>
  Zmb _ 26 62 ty _ underlying26 Zzt g _ _ _ (by omega)
   (fun k hk=>by
    rw[hzl.1]at hk;rw[World.cell?_setCells_out g _ _ _ ⟨g,_,none⟩ (fun _ _=> .inr (by rw[Zae,Yan];show _≤(i+(M.length-j))*3+k;omega))]
    have hlt:(i+(M.length-j))*3+k<(lines M).length:=by omega
    show(w.cell? _).isSome=true;rw[hc _ _ (Yaj hlt)];rfl)
   (fun k hk=>by rw[Zko];exact hfr _) hzl.2
 have HB:Hid (∀ q,Below base w ((((w.drewN q).setCells g (i*3) (lines (M.drop j))).setCells g ((i+(M.length-j))*3) (Builtin.zeroCells (Value.agg #[.int .i64 0, .string ⟨#[]⟩, .int .i64 0]).cells (M.length-(i+(M.length-j)))).toList))):=fun q=>Zap hbg _ _ (Zap hbg _ _ (Zao (Yag _ _) q))
 have hne:((i:Int)==(j:Int))=false:=by rw[Yak];omega
 have HCd:Hid (∀ k u,(lines (M.drop j))[k]?=some u→w.cell? ⟨g,j*3+k,none⟩=some u):=fun k u hu=>by
  rw[Zvh M hj,Ycp]at hu;exact hc _ _ hu
 have HSp:Hid (∀ q k,k<(lines (M.drop j)).length→((w.drewN q).cell? ⟨g,i*3+k,none⟩).isSome=true∧(w.drewN q).frozen? ⟨g,i*3+k,none⟩=false):=fun q k hk=>by
  rw[Zae,Yan]at hk;have hlt:i*3+k<(lines M).length:=by omega
  refine⟨?_,hfr _⟩;show(w.cell? _).isSome=true;rw[hc _ _ (Yaj hlt)];rfl
 have hdl:(lines (M.drop j)).length=(M.length-j)*3:=by rw[Zae,Yan]
 have HLc:=Zhd (Zka (M.drop j));unfold maxLen at hcm;have f1:(i:Int)≤(j:Int):=by omega
 have f2:(j:Int)≤(M.length:Int):=by omega
 have f3:(M.length:Int)≤(cap:Int):=by omega
 have f4:(j:Int)-(i:Int)=((j-i:Nat):Int):=by omega
 have f5:(M.length:Int)-(j:Int)=((M.length-j:Nat):Int):=by omega
 have f6:(M.length:Int)-(i:Int)=((M.length-i:Nat):Int):=by omega
 have f7:(cap:Int)-(j:Int)=((cap-j:Nat):Int):=by omega
 have f8:(i:Int)≤(cap:Int):=by omega
 have f9: ¬ (M.length=i):=by omega
 obtain⟨r,hr⟩: ∃ r,i+(M.length-j)=r:=⟨_,rfl⟩;have hri:(i:Int)+((M.length-j:Nat):Int)=(r:Int):=by omega
 have g1:(r:Int)≤(M.length:Int):=by omega
 have g2:(M.length:Int)-(r:Int)=((M.length-r:Nat):Int):=by omega
 have g3:(cap:Int)-(r:Int)=((cap-r:Nat):Int):=by omega
 have g4: ¬ (cap=r):=by omega
 have g5: ¬ (r=cap):=by omega
 have g6:r≤cap:=by omega
 rw[hr]at HD hcl HB;obtain⟨w9,hw9⟩: ∃ w9,w.drew.setCells g (0+i*3) (lines (M.drop j))=w9:=⟨_,rfl⟩;obtain⟨w10,hw10⟩: ∃ w10,w9.setCells g (r*3) (Builtin.zeroCells (Value.agg #[.int .i64 0, .string ⟨#[]⟩, .int .i64 0]).cells (M.length-r)).toList=w10:=⟨_,rfl⟩
 have hcl9: ∀ ty,(Builtin.clear_ #[26] ty #[.slice (some ⟨g,r*3,none⟩) (M.length-r) (cap-r)]).run prog w9= .ok (.tuple #[]) w10:=fun ty=>by
  rw[←hw10,←hw9,Ybi];exact hcl 1 ty
 have HE:Hid (Zvo g cap i j base M w (.returned (.slice (some ⟨g,0,none⟩) r cap)) w10):=by
  show Zvo _ _ _ _ _ _ _ _ _;unfold Zvo;rw[hr,←hw10,←hw9,Ybi];exact⟨rfl,HD.out 1,HB.out 1⟩
 clear ho hc hfr hzl hll hcl HD HB hw10;by_cases hjc:j=cap
 · have hjM:j=M.length:=by omega
   subst hjM;subst hjc;have hri2:r=i:=by omega
   subst hri2;have hd0:lines (M.drop M.length)= []:=by rw[Ydo];rfl
   have hw0:w.drew=w9:=by rw[←hw9,hd0];rfl
   have hf2: ¬ (r=M.length):=by omega
   clear hw9 hd0 hr hri HSp HCd HLc hdl f4 f5 f6 f7 g2 g3 g4 g5 hcap f3;have f6:(M.length:Int)-(r:Int)=((M.length-r:Nat):Int):=by omega
   go_enter func67,ntmps67;go_upto_region 5 with fail
   go_region_law ((refine step_append_room rfl _ _ 26 rfl 62 i0 3 underlying26 hii hz1 g 0 r M.length (by rfl) ⟨g,0,none⟩ 0 0 [] (by rfl) rfl (fun k u hu=>by cases hu) (fun u hu=>by cases hu) (by omega) (fun k hk=>absurd hk (Ydm _)) ?_;change _ w.drew;rw[hw0]))
   all_goals go_wp2
   all_goals go_ret
   all_goals exact HE.out
 · have hjc2: ¬ (cap=j):=fun e=>hjc e.symm
   go_enter func67,ntmps67;go_upto_region 5 with fail
   go_region_law ((refine step_append_room rfl _ _ 26 rfl 62 i0 3 underlying26 hii hz1 g 0 i cap (by rfl) ⟨g,j*3,none⟩ (M.length-j) (cap-j) (lines (M.drop j)) (by rfl) hdl (fun k u hu=>by rw[Zag];exact HCd.out k u hu) HLc.out (by omega) (fun k hk=>by rw[Ybi];exact HSp.out 1 k hk) ?_;rw[hw9,hr]))
   all_goals go_wp2
   all_goals go_ret
   all_goals exact HE.out
end Go.Proofs.Zq
namespace Edt
open Go Go.Lib Tre Lns
def delB (L:List Line) (P:List ByteArray):List Line×Int:=
 if P.length=0 then(L,1)else match Zas L P with
  |none=>(L,3)
  |some k=>if Zuf L P k (endB L k)then(L,12)else(L.take k++L.drop (endB L k),0)
theorem Zbbz {L:List Line} {P:List ByteArray} (h:P.length=0):delB L P=(L,1):=by unfold delB;rw[Yam h]
theorem Zawd {L:List Line} {P:List ByteArray} (h:P.length≠0) (hf:Zas L P=none):delB L P=(L,3):=by unfold delB;rw[Yab h,hf]
theorem Zawe {L:List Line} {P:List ByteArray} {k:Nat} (h:P.length≠0) (hf:Zas L P=some k) (hs:Zuf L P k (endB L k)=true):delB L P=(L,12):=by unfold delB;rw[Yab h,hf];simp only;rw[Yam hs]
theorem Zbby {L:List Line} {P:List ByteArray} {k:Nat} (h:P.length≠0) (hf:Zas L P=some k) (hs:Zuf L P k (endB L k)=false):delB L P=(L.take k++L.drop (endB L k),0):=by unfold delB;rw[Yab h,hf];simp only;rw[Yab (by rw[hs];simp)]
end Edt
namespace Go.Proofs.Zq
open Tryz
open Go Go.RowKit Go.Sort Tre Lx Prs Lns Edt
theorem Zajs (A:Option Addr) (cap:Nat) (L:List Line) (Ap:Option Addr) (cp:Nat) (P:List ByteArray) (w:World) (hR:Rd w 3 A L.length (lines L)) (hcap:L.length≤cap) (hc:cap≤maxLen) (hnil:A=none→cap=0) (hr:Zab L=true) (hP:Rd w 1 Ap P.length (sv P)) (hcp:P.length≤cp) (hc2:cp≤maxLen):
 Calls prog 36 #[.slice A L.length cap, .slice Ap P.length cp] w (Zif (delB L P) w):=by
 have HPa:=Zhd (Zrx A cap L Ap cp P w hR hcap hc hr hP hcp hc2);have HL:Hid (∀ W,Below w.heap.size w W→Lr W (.slice A L.length cap) L):=fun W hb=>⟨A,cap,rfl,hcap,hc,hR.below hb,hnil⟩
 have h200:=Zau hr;obtain⟨z,hz⟩: ∃ z,delB L P=z:=⟨_,rfl⟩;have HZ:=Zhd hz;unfold Zif;rw[hz];clear hz;by_cases h0:P.length=0
 · have HK:Hid (z=(L,1)):=by show _=_;rw[←HZ.out,Zbbz h0]
   rw[Zpe h0]at HPa;clear HZ hR hP hr h0;go_enter func36,ntmps36;go_wp2_with fail;refine HPa.out.mono ?_;rintro e w2 ⟨rfl,hb2⟩;go_wp2;go_ret2;rw[HK.out];exact⟨⟨_,rfl,HL.out _ hb2⟩,hb2⟩
 · cases hf:Zas L P with
   | none=>
     have HK:Hid (z=(L,3)):=by show _=_;rw[←HZ.out,Zawd h0 hf]
     rw[Zlx h0 hf]at HPa;clear HZ hR hP hr h0 hf;go_enter func36,ntmps36;go_wp2_with fail;refine HPa.out.mono ?_;rintro e w2 ⟨rfl,hb2⟩;go_wp2;go_ret2;rw[HK.out];exact⟨⟨_,rfl,HL.out _ hb2⟩,hb2⟩
   | some k=>
     have hk:=Zcu hf;have he:=Zbb L k hk;rw[Zly h0 hf]at HPa;have HS:=Zhd (fun(W:World) (hb:Below w.heap.size w W)=>Zaid A cap L Ap cp P k (endB L k) W (hR.below hb) hcap hc hr (hP.below hb) hcp hc2 hk (by omega) (by omega))
     have HCl:=Zhd (fun(W:World) (hb:Below w.heap.size w W)=>Zfg A cap L W (hR.below hb) hnil (by omega))
     unfold Zct at HCl;cases hs:Zuf L P k (endB L k)with
     | true=>
       have HK:Hid (z=(L,12)):=by show _=_;rw[←HZ.out,Zawe h0 hf hs]
       rw[hs]at HS;clear HZ hR hP hr h0 hf hs HCl;go_enter func36,ntmps36;go_wp2_with fail;refine HPa.out.mono ?_;rintro e w2 ⟨rfl,hb2⟩;have HS2:=Zhd (HS.out w2 hb2);have HB2:=Zhd hb2;clear hb2 HPa HS;go_wp2_with fail;refine HS2.out.mono ?_;rintro e w3 ⟨rfl,hb3⟩;have HB3:=Zhd (Zaa HB2.out hb3);go_wp2;go_ret2;rw[HK.out];exact⟨⟨_,rfl,HL.out _ HB3.out⟩,HB3.out⟩
     | false=>
       have HK:Hid (z=(L.take k++L.drop (endB L k),0)):=by show _=_;rw[←HZ.out,Zbby h0 hf hs]
       rw[hs]at HS;clear HZ hR hP hr h0 hf hs;generalize endB L k=E at *;go_enter func36,ntmps36;go_wp2_with fail;refine HPa.out.mono ?_;rintro e w2 ⟨rfl,hb2⟩;have HS2:=Zhd (HS.out w2 hb2);have HB2:=Zhd hb2;clear hb2 HPa HS;go_wp2_with fail;refine HS2.out.mono ?_;rintro e w3 ⟨rfl,hb3⟩;have HB3:=Zhd (Zaa HB2.out hb3);have HC3:=Zhd (HCl.out w3 HB3.out);clear hb3 HS2 HCl;go_wp2_with fail;refine HC3.out.mono ?_;rintro e w4 ⟨⟨v4,rfl,ho4⟩,hb4⟩;obtain⟨m,hm⟩: ∃ m,L.length=m+1:=⟨L.length-1,by omega⟩
       have ho4':=ho4;rw[hm]at ho4';obtain⟨q,cc,rfl⟩:=Zda ho4';rw[←hm]at ho4⊢;obtain⟨A4,c4,e4,hn4,hm4,-⟩:=Zbj ho4;obtain⟨rfl,rfl⟩:A4=some ⟨q,0,none⟩∧cc=c4:=by
        injection e4 with e1 _ e3
        exact⟨e1.symm,e3⟩
       have HD:=Zhd (Zanu q cc k E w3.heap.size L w4 ho4 (by omega) (by omega) hn4 hm4 (by omega))
       have HB4:=Zhd (Zaa HB3.out hb4);unfold Zvo at HD;have hlen:(L.take k++L.drop E).length=k+(L.length-E):=by rw[Yae,Yah,Yan];omega
       clear ho4 ho4' hm e4 hb4 HC3;have hz3:=HB3.out.size;go_wp2_with fail;refine HD.out.mono ?_;rintro e w5 ⟨rfl,hrd,hb5⟩;have HB5:=Zhd (HB4.out.trans (hb5.mono hz3));have HR5:Hid (Lr w5 (.slice (some ⟨q,0,none⟩) (k+(L.length-E)) cc) (L.take k++L.drop E)):=⟨_,cc,by rw[hlen],by rw[hlen];omega,hm4,by rw[hlen];exact hrd,fun h=>by cases h⟩
       clear hrd hb5 HD hlen;go_wp2;go_ret2;rw[HK.out];exact⟨⟨_,rfl,HR5.out⟩,HB5.out⟩
end Go.Proofs.Zq
namespace Edt
open Go Go.Lib Tre Lns
def Zabv (l:Line) (b:Int) (on:Bool):Line:=⟨l.depth,l.word,if on then bits .or .i64 l.mark b else bits .andNot .i64 l.mark b⟩
def Zhu (L:List Line) (P:List ByteArray) (b:Int) (on:Bool):List Line×Int:=
 if b≠1∧b≠2 then(L,1)else if P.length=0 then(L,1)else match Zas L P with
  |none=>(L,3)
  |some k=>if Zqv L P||(decide (b=1)&&(bits .and .i64 (Zck L k).mark 2 !=0))then(L,12)else(L.set k (Zabv (Zck L k) b on),0)
theorem Zaxs {L:List Line} {P:List ByteArray} {b:Int} {on:Bool} (h1:b≠1) (h2:b≠2):Zhu L P b on=(L,1):=by unfold Zhu;rw[Yam ⟨h1,h2⟩]
theorem Zaxt {L:List Line} {P:List ByteArray} {b:Int} {on:Bool} (hb:b=1∨b=2) (h:P.length=0):Zhu L P b on=(L,1):=by unfold Zhu;rw[Yab (by omega),Yam h]
theorem Zapr {L:List Line} {P:List ByteArray} {b:Int} {on:Bool} (hb:b=1∨b=2) (h:P.length≠0) (hf:Zas L P=none):Zhu L P b on=(L,3):=by unfold Zhu;rw[Yab (by omega),Yab h,hf]
theorem Zaps {L:List Line} {P:List ByteArray} {b:Int} {on:Bool} {k:Nat} (hb:b=1∨b=2) (h:P.length≠0) (hf:Zas L P=some k) (hk:k<L.length):Zhu L P b on=if Zqv L P||(decide (b=1)&&(bits .and .i64 L[k].mark 2 !=0))then(L,12)else(L.set k (Zabv L[k] b on),0):=by unfold Zhu;rw[Yab (by omega),Yab h,hf];simp only;rw[Zcd hk]
end Edt
namespace Go.Proofs.Zq
open Tryz
open Go Go.RowKit Go.Sort Tre Lx Prs Lns Edt
theorem Zbcs {w:World} {base q n cc k:Nat} {L:List Line} {m:Int} (hn:L.length=n) (ho:w.ownsRow base 62 3 (.slice (some ⟨q,0,none⟩) n cc) n (lines L)) (hk:k<L.length):
 Rd (w.setCell ⟨q,k*3+2,none⟩ (.int .i64 m)) 3 (some ⟨q,0,none⟩) n (lines (L.set k ⟨L[k].depth,L[k].word,m⟩)):=by
 have hll:=Zae L;obtain⟨-,hgl⟩:=ho.lt q rfl
 have hc: ∀ t u,(lines L)[t]?=some u→w.cell? ⟨q,t,none⟩=some u:=fun t u hu=>by
  have ht:=(Ybb.1 hu).1;rw[ho.cellAt t (by omega)];exact hu
 refine⟨by rw[Zae,Ycq,hn],fun _=>⟨_,rfl,by simpa using hgl,fun t u hu=> ?_⟩⟩
 rw[Zag,Ybi];have ht:t<L.length*3:=by
  have:=(Ybb.1 hu).1
  rwa [Zae,Ycq]at this
 have hti:t/3<L.length:=by omega
 have e1:=Zja (L.set k ⟨L[k].depth,L[k].word,m⟩) (t/3) (t%3) (by rw[Ycq];exact hti) (by omega)
 have e2:=Zja L (t/3) (t%3) hti (by omega)
 rw[show t/3*3+t%3=t by omega]at e1 e2
 rw[e1,List.getElem_set]at hu;by_cases h:t=k*3+2
 · have hq:k=t/3:=by omega
   rw[Yam hq,show t%3=2 by omega]at hu
   have hlt:k*3+2<(lines L).length:=by omega
   have hsome:=hc _ _ (Yaj hlt);rw[h,World.cell?_setCell_same _ _ _ hsome];simpa[Line.cells]using hu
 · rw[World.cell?_setCell_other _ _ _ _ (fun e=>h (by injection e with _ e2 _;omega))]
   by_cases hq:k=t/3
   · rw[Yam hq]at hu;refine hc t u ?_;rw[e2];have h3:t%3=0∨t%3=1:=by omega
     subst hq;rcases h3 with h3|h3<;>rw[h3]at hu⊢ <;>simpa[Line.cells]using hu
   · rw[Yab hq]at hu;exact hc t u (by rw[e2];exact hu)
theorem Zaoa (A :Option Addr) (cap:Nat) (L:List Line) (Ap:Option Addr) (cp:Nat) (P:List ByteArray) (b:Int) (on:Bool) (w:World) (hR:Rd w 3 A L.length (lines L)) (hcap:L.length≤cap) (hc:cap≤maxLen) (hnil:A=none→cap=0) (hr:Zab L=true) (hP:Rd w 1 Ap P.length (sv P)) (hcp:P.length≤cp) (hc2:cp≤maxLen):
 Calls prog 37 #[.slice A L.length cap, .slice Ap P.length cp, .int .i64 b, .bool on] w (Zif (Zhu L P b on) w):=by
 have HPa:=Zhd (Zrx A cap L Ap cp P w hR hcap hc hr hP hcp hc2);have HL:Hid (∀ W,Below w.heap.size w W→Lr W (.slice A L.length cap) L):=fun W hb=>⟨A,cap,rfl,hcap,hc,hR.below hb,hnil⟩
 have h200:=Zau hr;obtain⟨z,hz⟩: ∃ z,Zhu L P b on=z:=⟨_,rfl⟩;have HZ:=Zhd hz;unfold Zif;rw[hz];clear hz;by_cases hb:b=1∨b=2
 · have hq12 : (b !=1)=true→(b !=2)=false:=fun h=>by rw[bne_iff_ne]at h;rcases hb with e|e;exact absurd e h;rw[e];rfl
   by_cases h0:P.length=0
   · have HK:Hid (z=(L,1)):=by show _=_;rw[←HZ.out,Zaxt hb h0]
     rw[Zpe h0]at HPa;clear HZ hR hP hr h0 hq12;rcases hb with rfl|rfl
     all_goals
      go_enter func37,ntmps37;go_wp2_with fail;refine HPa.out.mono ?_;rintro e w2 ⟨rfl,hb2⟩;go_wp2;go_ret2;rw[HK.out];exact⟨⟨_,rfl,HL.out _ hb2⟩,hb2⟩
   · cases hf : Zas L P with
     | none=>
       have HK:Hid (z=(L,3)):=by show _=_;rw[←HZ.out,Zapr hb h0 hf]
       rw[Zlx h0 hf]at HPa;clear HZ hR hP hr h0 hf hq12;rcases hb with rfl|rfl
       all_goals
        go_enter func37,ntmps37;go_wp2_with fail;refine HPa.out.mono ?_;rintro e w2 ⟨rfl,hb2⟩;go_wp2;go_ret2;rw[HK.out];exact⟨⟨_,rfl,HL.out _ hb2⟩,hb2⟩
     | some k =>
       have hk:=Zcu hf;have HZ2:=Zhd (HZ.out.symm.trans (Zaps (on:=on) hb h0 hf hk));rw[Zly h0 hf]at HPa;have HAb:=Zhd (fun(W:World) (hbw:Below w.heap.size w W)=>Zzx A cap L Ap cp P W (hR.below hbw) hcap hc hr (hP.below hbw) hcp hc2 h0)
       have HCl:=Zhd (fun(W:World) (hbw:Below w.heap.size w W)=>Zfg A cap L W (hR.below hbw) hnil (by omega))
       unfold Zct at HCl;obtain⟨B,O,rfl,hab,hadd,-,-,y2⟩:=hR.line hk;have hk1:(k:Int)<(L.length:Int):=by omega
       have HY:Hid (∀ W,Below w.heap.size w W→W.cell? ⟨B,O+k*3+2,none⟩=some (.int .i64 L[k].mark)):=fun W hbw=>(hbw.cell (p:=⟨B,O+k*3+2,none⟩) hab).trans y2
       have HMk:=Zhd (fun(W:World) (base q cc:Nat) (ho:W.ownsRow base 62 3 (.slice (some ⟨q,0,none⟩) L.length cc) L.length (lines L)) (m:Int)=>Zbcs (m:=m) rfl ho hk)
       have HLk:=Zhd (Zja L k 2 hk (by omega))
       unfold Zabv at HZ2;clear HZ hP hr h0 hf y2;generalize endB L k=E at *;obtain⟨ln,hln⟩: ∃ ln,L[k]=ln:=⟨_,rfl⟩;rw[hln]at HZ2 HY HMk HLk;obtain⟨ld,lw,lm⟩:=ln;simp only at HZ2 HY HMk HLk;clear hln hR;cases hab2:Zqv L P with
       | true=>
         rw[hab2]at HZ2 HAb;have HK:Hid (z=(L,12)):=by show _=_;rw[HZ2.out];rfl
         clear HZ2 HY HMk HCl HLk hab2 hq12;rcases hb with rfl|rfl
         all_goals
          go_enter func37,ntmps37;go_wp2_with fail;refine HPa.out.mono ?_;rintro e w2 ⟨rfl,hb2⟩;have HA2:=Zhd (HAb.out w2 hb2);have HB2:=Zhd hb2;clear hb2;go_wp2_with fail;refine HA2.out.mono ?_;rintro e w3 ⟨rfl,hb3⟩;have HB3:=Zhd (Zaa HB2.out hb3);go_wp2;go_ret2;rw[HK.out];exact⟨⟨_,rfl,HL.out _ HB3.out⟩,HB3.out⟩
       | false =>
         rw[hab2]at HZ2 HAb;clear hab2 hq12;rcases hb with rfl|rfl
         · cases hq:(bits .and .i64 lm 2 !=0)with
           | true=>
             rw[hq]at HZ2;have HK:Hid (z=(L,12)):=by show _=_;rw[HZ2.out];rfl
             clear HZ2;go_enter func37,ntmps37;go_wp2_with fail;refine HPa.out.mono ?_;rintro e w2 ⟨rfl,hb2⟩;have HA2:=Zhd (HAb.out w2 hb2);have HB2:=Zhd hb2;clear hb2;go_wp2_with fail;refine HA2.out.mono ?_;rintro e w3 ⟨rfl,hb3⟩;have HB3:=Zhd (Zaa HB2.out hb3);have y2:=HY.out w3 HB3.out;clear hb3 HA2;go_wp2;go_ret2;rw[HK.out];exact⟨⟨_,rfl,HL.out _ HB3.out⟩,HB3.out⟩
           | false=>
             rw[hq]at HZ2;cases on with
             | true=>
               have HK:Hid (z=(L.set k ⟨ld,lw,bits .or .i64 lm 1⟩,0)):=by show _=_;rw[HZ2.out];rfl
               clear HZ2;go_enter func37,ntmps37;go_wp2_with fail;refine HPa.out.mono ?_;rintro e w2 ⟨rfl,hb2⟩;have HA2:=Zhd (HAb.out w2 hb2);have HB2:=Zhd hb2;clear hb2;go_wp2_with fail;refine HA2.out.mono ?_;rintro e w3 ⟨rfl,hb3⟩;have HB3:=Zhd (Zaa HB2.out hb3);have y2:=HY.out w3 HB3.out;clear hb3 HA2;have HC3:=Zhd (HCl.out w3 HB3.out);go_wp2_with fail;refine HC3.out.mono ?_;rintro e w4 ⟨⟨v4,rfl,ho4⟩,hb4⟩;obtain⟨m,hm⟩: ∃ m,L.length=m+1:=⟨L.length-1,by omega⟩
               have ho4':=ho4;rw[hm]at ho4';obtain⟨q,cc,rfl⟩:=Zda ho4';rw[←hm]at ho4⊢;obtain⟨A4,c4,e4,hn4,hm4,-⟩:=Zbj ho4;obtain⟨rfl,rfl⟩:A4=some ⟨q,0,none⟩∧cc=c4:=by
                injection e4 with e1 _ e3
                exact⟨e1.symm,e3⟩
               have x2:w4.cell? ⟨q,k*3+2,none⟩=some (.int .i64 lm):=by
                rw[ho4.cellAt (k*3+2) (by have:=Zae L;omega)]
                exact HLk.out.trans rfl
               have hfz:w4.frozen? ⟨q,k*3+2,none⟩=false:=ho4.frozenAt _;have HR4:=Zhd (HMk.out w4 _ q cc ho4 (bits .or .i64 lm 1));have HB4:=Zhd ((Zaa HB3.out hb4).setCell (p:=⟨q,k*3+2,none⟩) (Yat HB3.out.size (ho4.lt q rfl).1) (.int .i64 (bits .or .i64 lm 1)));have hls:(L.set k ⟨ld,lw,bits .or .i64 lm 1⟩).length=L.length:=Ycq;clear ho4 ho4' hm e4 hb4 HC3 y2;go_wp2;go_ret2;rw[HK.out];exact⟨⟨.slice (some ⟨q,0,none⟩) L.length cc,rfl,some ⟨q,0,none⟩,cc,by rw[hls],by rw[hls];exact hn4,hm4,by rw[hls];exact HR4.out,fun h=>by cases h⟩,HB4.out⟩
             | false=>
               have HK:Hid (z=(L.set k ⟨ld,lw,bits .andNot .i64 lm 1⟩,0)):=by show _=_;rw[HZ2.out];rfl
               clear HZ2;go_enter func37,ntmps37;go_wp2_with fail;refine HPa.out.mono ?_;rintro e w2 ⟨rfl,hb2⟩;have HA2:=Zhd (HAb.out w2 hb2);have HB2:=Zhd hb2;clear hb2;go_wp2_with fail;refine HA2.out.mono ?_;rintro e w3 ⟨rfl,hb3⟩;have HB3:=Zhd (Zaa HB2.out hb3);have y2:=HY.out w3 HB3.out;clear hb3 HA2;have HC3:=Zhd (HCl.out w3 HB3.out);go_wp2_with fail;refine HC3.out.mono ?_;rintro e w4 ⟨⟨v4,rfl,ho4⟩,hb4⟩;obtain⟨m,hm⟩: ∃ m,L.length=m+1:=⟨L.length-1,by omega⟩
               have ho4':=ho4;rw[hm]at ho4';obtain⟨q,cc,rfl⟩:=Zda ho4';rw[←hm]at ho4⊢;obtain⟨A4,c4,e4,hn4,hm4,-⟩:=Zbj ho4;obtain⟨rfl,rfl⟩:A4=some ⟨q,0,none⟩∧cc=c4:=by
                injection e4 with e1 _ e3
                exact⟨e1.symm,e3⟩
               have x2:w4.cell? ⟨q,k*3+2,none⟩=some (.int .i64 lm):=by
                rw[ho4.cellAt (k*3+2) (by have:=Zae L;omega)]
                exact HLk.out.trans rfl
               have hfz:w4.frozen? ⟨q,k*3+2,none⟩=false:=ho4.frozenAt _;have HR4:=Zhd (HMk.out w4 _ q cc ho4 (bits .andNot .i64 lm 1));have HB4:=Zhd ((Zaa HB3.out hb4).setCell (p:=⟨q,k*3+2,none⟩) (Yat HB3.out.size (ho4.lt q rfl).1) (.int .i64 (bits .andNot .i64 lm 1)));have hls:(L.set k ⟨ld,lw,bits .andNot .i64 lm 1⟩).length=L.length:=Ycq;clear ho4 ho4' hm e4 hb4 HC3 y2;go_wp2;go_ret2;rw[HK.out];exact⟨⟨.slice (some ⟨q,0,none⟩) L.length cc,rfl,some ⟨q,0,none⟩,cc,by rw[hls],by rw[hls];exact hn4,hm4,by rw[hls];exact HR4.out,fun h=>by cases h⟩,HB4.out⟩
         · have q21:((2:Int)==1)=false:=rfl;cases on with
           | true=>
             have HK:Hid (z=(L.set k ⟨ld,lw,bits .or .i64 lm 2⟩,0)):=by show _=_;rw[HZ2.out];rfl
             clear HZ2;go_enter func37,ntmps37;go_wp2_with fail;refine HPa.out.mono ?_;rintro e w2 ⟨rfl,hb2⟩;have HA2:=Zhd (HAb.out w2 hb2);have HB2:=Zhd hb2;clear hb2;go_wp2_with fail;refine HA2.out.mono ?_;rintro e w3 ⟨rfl,hb3⟩;have HB3:=Zhd (Zaa HB2.out hb3);have y2:=HY.out w3 HB3.out;clear hb3 HA2;have HC3:=Zhd (HCl.out w3 HB3.out);go_wp2_with fail;refine HC3.out.mono ?_;rintro e w4 ⟨⟨v4,rfl,ho4⟩,hb4⟩;obtain⟨m,hm⟩: ∃ m,L.length=m+1:=⟨L.length-1,by omega⟩
             have ho4':=ho4;rw[hm]at ho4';obtain⟨q,cc,rfl⟩:=Zda ho4';rw[←hm]at ho4⊢;obtain⟨A4,c4,e4,hn4,hm4,-⟩:=Zbj ho4;obtain⟨rfl,rfl⟩:A4=some ⟨q,0,none⟩∧cc=c4:=by
              injection e4 with e1 _ e3
              exact⟨e1.symm,e3⟩
             have x2:w4.cell? ⟨q,k*3+2,none⟩=some (.int .i64 lm):=by
              rw[ho4.cellAt (k*3+2) (by have:=Zae L;omega)]
              exact HLk.out.trans rfl
             have hfz:w4.frozen? ⟨q,k*3+2,none⟩=false:=ho4.frozenAt _;have HR4:=Zhd (HMk.out w4 _ q cc ho4 (bits .or .i64 lm 2));have HB4:=Zhd ((Zaa HB3.out hb4).setCell (p:=⟨q,k*3+2,none⟩) (Yat HB3.out.size (ho4.lt q rfl).1) (.int .i64 (bits .or .i64 lm 2)));have hls:(L.set k ⟨ld,lw,bits .or .i64 lm 2⟩).length=L.length:=Ycq;clear ho4 ho4' hm e4 hb4 HC3 y2;go_wp2;go_ret2;rw[HK.out];exact⟨⟨.slice (some ⟨q,0,none⟩) L.length cc,rfl,some ⟨q,0,none⟩,cc,by rw[hls],by rw[hls];exact hn4,hm4,by rw[hls];exact HR4.out,fun h=>by cases h⟩,HB4.out⟩
           | false=>
             have HK:Hid (z=(L.set k ⟨ld,lw,bits .andNot .i64 lm 2⟩,0)):=by show _=_;rw[HZ2.out];rfl
             clear HZ2;go_enter func37,ntmps37;go_wp2_with fail;refine HPa.out.mono ?_;rintro e w2 ⟨rfl,hb2⟩;have HA2:=Zhd (HAb.out w2 hb2);have HB2:=Zhd hb2;clear hb2;go_wp2_with fail;refine HA2.out.mono ?_;rintro e w3 ⟨rfl,hb3⟩;have HB3:=Zhd (Zaa HB2.out hb3);have y2:=HY.out w3 HB3.out;clear hb3 HA2;have HC3:=Zhd (HCl.out w3 HB3.out);go_wp2_with fail;refine HC3.out.mono ?_;rintro e w4 ⟨⟨v4,rfl,ho4⟩,hb4⟩;obtain⟨m,hm⟩: ∃ m,L.length=m+1:=⟨L.length-1,by omega⟩
             have ho4':=ho4;rw[hm]at ho4';obtain⟨q,cc,rfl⟩:=Zda ho4';rw[←hm]at ho4⊢;obtain⟨A4,c4,e4,hn4,hm4,-⟩:=Zbj ho4;obtain⟨rfl,rfl⟩:A4=some ⟨q,0,none⟩∧cc=c4:=by
              injection e4 with e1 _ e3
              exact⟨e1.symm,e3⟩
             have x2:w4.cell? ⟨q,k*3+2,none⟩=some (.int .i64 lm):=by
              rw[ho4.cellAt (k*3+2) (by have:=Zae L;omega)]
              exact HLk.out.trans rfl
             have hfz:w4.frozen? ⟨q,k*3+2,none⟩=false:=ho4.frozenAt _;have HR4:=Zhd (HMk.out w4 _ q cc ho4 (bits .andNot .i64 lm 2));have HB4:=Zhd ((Zaa HB3.out hb4).setCell (p:=⟨q,k*3+2,none⟩) (Yat HB3.out.size (ho4.lt q rfl).1) (.int .i64 (bits .andNot .i64 lm 2)));have hls:(L.set k ⟨ld,lw,bits .andNot .i64 lm 2⟩).length=L.length:=Ycq;clear ho4 ho4' hm e4 hb4 HC3 y2;go_wp2;go_ret2;rw[HK.out];exact⟨⟨.slice (some ⟨q,0,none⟩) L.length cc,rfl,some ⟨q,0,none⟩,cc,by rw[hls],by rw[hls];exact hn4,hm4,by rw[hls];exact HR4.out,fun h=>by cases h⟩,HB4.out⟩
 · have h1:(b !=1)=true:=by rw[bne_iff_ne];omega
   have h2:(b !=2)=true:=by rw[bne_iff_ne];omega
   have HK:Hid (z=(L,1)):=by show _=_;rw[←HZ.out,Zaxs (by omega) (by omega)]
   have HLw:=HL.out w (Yag _ _);clear HZ hR hP hr hb;go_enter func37,ntmps37;go_wp2;go_ret2;rw[HK.out];exact⟨⟨_,rfl,HLw⟩,Yag _ _⟩
theorem Zvs (Ap:Option Addr) (cp:Nat) (P:List ByteArray) (s:ByteArray) (w:World) (hP:Rd w 1 Ap P.length (sv P)) (hcp:P.length≤cp) (_hc2:cp≤maxLen) (h0:P.length≠0) (h16:P.length≤1000000):
 Calls prog 70 #[.slice Ap P.length cp, .string s] w fun e w'=>(∃ v,e= .returned v∧w'.ownsRow w.heap.size 9 1 v P.length (sv (P.dropLast++ [s])))∧Below w.heap.size w w':=by
 obtain⟨i0,hi,hz0,hz1,hz2⟩:=info_parts Zei;obtain⟨m,hm⟩: ∃ m,P.length=m+1:=⟨P.length-1,by omega⟩
 obtain⟨ad,rfl,-,hx⟩:=hP.2 (by omega)
 have hsv: ∀ j,j<P.length→(sv P)[j]?=some (.string (P.getD j ByteArray.empty)):=fun j hj=>by
  unfold sv;rw[Ydb,Yar,Yaj hj];rfl
 have hs:ad.spot=none:=by
  have h00:=hx 0 _ (hsv 0 (by omega))
  have h2:=World.cell?_spot h00;have h3:ad.add 0=ad:=by simp[Addr.add]
  rwa [h3]at h2
 obtain⟨b,o,sp⟩:=ad;obtain rfl:sp=none:=hs
 have HCl:=Zhd (Tryz.slices_Clone_string b o m cp P w (by omega) (by omega) (fun j hj=>by
  have:=hx j _ (hsv j hj)
  rwa [Zag]at this))
 have hi1:(m:Int)≤(cp:Int):=by omega
 have hi0:(0:Int)≤(m:Int):=by omega
 unfold maxLen at _hc2;have hm63:(m:Int)+1≤9223372036854775807:=by omega
 have hdl:P.dropLast=P.take m:=by rw[Ydc,hm];rfl
 have HE:Hid (sv (P.dropLast++ [s])=sv (P.take m)++ [.string s]):=by show _=_;rw[hdl,Zbau];rfl
 rw[hm];clear hP hx hsv hdl;go_enter func70,ntmps70;go_wp2_with fail;refine HCl.out.mono ?_;rintro e w2 ⟨v2,rfl,ho2,-,hb2⟩;have HO2:Hid (w2.ownsRow w.heap.size 9 1 v2 m (sv (P.take m))):=ho2;have HB2:=Zhd hb2;clear ho2 hb2;go_wp2_with (at_builtin;refine Zfv rfl _ _ 34 rfl w w2 9 i0 _ 1 16 underlying34 hi hz0 hz1 hz2 rfl (by decide) (by decide) HO2.out HB2.out rfl 1 1 [.string s] rfl rfl (by simp;rfl) (by omega) ?_;intro v3 w3 hown3 hb3)
 go_wp2_with fail;go_ret;exact⟨⟨_,rfl,by rw[HE.out];exact hown3⟩,hb3⟩
end Go.Proofs.Zq
