import Derived.Test.YtkbojechhmmkcaaGreatDoorK24
set_option linter.unusedVariables false
set_option linter.unusedSimpArgs false
set_option maxHeartbeats 2000000
set_option maxRecDepth 100000
namespace Edt
open Go Go.Lib Tre Sch Lns
def Zfc:ByteArray:=⟨#[103,114,111,117,112,115]⟩
def Zfr:ByteArray:=⟨#[97,112,112,108,121]⟩
def ownB (s:ByteArray):Bool:=(s.toList==Zfc.toList)||(s.toList==Zfr.toList)
def Znt (q:List ByteArray):Bool:= !ownB (q.headD ⟨#[]⟩)
def expP (L:List Line):List (List ByteArray):=(actP L).filter Znt
def Zih (L:List Line):List Line:=ofS (expP L) Zht
theorem Zqh {L:List Line} (hr:Zab L=true):Zab (Zih L)=true∧Zad (Zih L)=expP L∧(∀ q,q∈expP L→stB (Zih L) q=0)∧ ∀ q,¬ q∈expP L→stB (Zih L) q= -1:=by
 have hl1:=Yck Znt (actP L);have hl2:=Yck (onB L) (Zad L);rw[Zaf]at hl2;refine Zpb (Zuz (Zafx hr) fun q hq h=> ?_) (Yat hl1 (Yat hl2 (Zac hr).1)) fun q hq=>⟨Zjg hr (Ycu.1 (Ycu.1 hq).1).1,Int.le_refl _,(by show(0:Int)≤3;decide)⟩
 cases q with
 |nil=>exact .inl rfl
 | cons a r=>
   cases r with
   |nil=>exact .inl rfl
   |cons b r=>exact .inr h
section
variable {L:List Line} (hr:Zab L=true)
include hr
theorem Zazs:(Zat L).getD 0 L.length=0:=by
 have hs:=Zmy L;rcases Ybj L.length with h0|h0
 · have:Zat L= []:=by unfold Zat kidsTo;rw[h0];rfl
   rw[this,h0];rfl
 · have hm:0∈Zat L:=Zbh.2 ⟨h0,Yaf _,dep_zero (Zac hr).2.1 h0⟩;cases hk:Zat L with
   |nil=>rw[hk]at hm;cases hm
   | cons a r=>
     rw[hk]at hm hs;rcases Yav.1 hm with h|h
     · rw[←h];rfl
     · have:=(Ycj.1 hs).1 0 h;omega
theorem Zazq {j:Nat} (hj:j<(Zat L).length):endB L (Zat L)[j]=(Zat L).getD (j+1) L.length:=by
 have hs:=Zmy L;have hmem:=Yaw hj;obtain⟨g1,-,g3⟩:=Zbh.1 hmem;obtain⟨e1,e2⟩:=Zbb L _ g1;rw[Ydx]at hs
 have hin: ∀ k,(Zat L)[j]<k→k<endB L (Zat L)[j]→ ¬ k∈Zat L:=fun k h1 h2 h3=>by
  have h4:=Zra g1 h1 h2;have h5:=(Zbh.1 h3).2.2;omega
 by_cases hn:j+1<(Zat L).length
 · rw [Yar,Yaj hn,Yfj];have h1:=hs j (j+1) hj hn (by omega)
   have h2:endB L (Zat L)[j]≤(Zat L)[j+1]:=by
    rcases Ybp (Zat L)[j+1] (endB L (Zat L)[j])with h|h
    · exact absurd (Yaw hn) (hin _ h1 h)
    · exact h
   have h3:=(Zbh.1 (Yaw hn)).1;have h4:endB L (Zat L)[j]<L.length:=by omega
   have h5:=Zli g1 h4;have h6:=(Zcf (Zac hr).2.1 h4).1;have h7:endB L (Zat L)[j]∈Zat L:=Zbh.2 ⟨h4,Yas _,by omega⟩
   obtain⟨k,hk,hk2⟩:=Ybs h7;rcases Nat.lt_trichotomy k (j+1)with h|h|h
   · rcases Ybp k j with h8|h8
     · have:=hs k j hk hj h8;omega
     · have h9:k=j:=by omega
       subst h9;omega
   · subst h;omega
   · have:=hs (j+1) k hn hk h;omega
 · rw [Yar,List.getElem?_eq_none (by omega),Option.getD_none]
   rcases Ybp (endB L (Zat L)[j]) L.length with h4|h4
   · have h5:=Zli g1 h4;have h6:=(Zcf (Zac hr).2.1 h4).1;have h7:endB L (Zat L)[j]∈Zat L:=Zbh.2 ⟨h4,Yas _,by omega⟩
     obtain⟨k,hk,hk2⟩:=Ybs h7;rcases Ybp k j with h8|h8
     · have:=hs k j hk hj h8;omega
     · have h9:k=j:=by omega
       subst h9;omega
   · omega
theorem Zazp {i k:Nat} (hi:i<L.length) (hd:Zaj L i=0) (hk:k<L.length) (h1:i≤k) (h2:k<endB L i):(pa L k).headD ⟨#[]⟩=Zbd L i:=by
 obtain⟨s,hs⟩:=(Zes hr hi hk).2 ⟨h1,h2⟩;have h3:=Zbz (Zac hr).2.1 hi;have h4:=Zel hr hi;rw[hd]at h3;cases hp:pa L i with
 |nil=>rw[hp]at h3;simp at h3
 | cons a r=>
   rw[hp]at h3 h4 hs;have hr0:r= []:=Yap (by simpa using h3)
   subst hr0;rw[hs,←h4];rfl
end
theorem Zajz {α:Type} (l:List α) (f:α→Bool) {i e:Nat} (h:i≤e) (hf: ∀ k (hk:k<l.length),i≤k→k<e→f l[k]=true):(l.take e).filter f=(l.take i).filter f++(l.drop i).take (e-i):=by
 have e1:l.take e=l.take i++(l.drop i).take (e-i):=by
  rw[←List.take_add];congr 1;omega
 rw[e1,Yco];congr 1;rw[Yee];intro x hx;obtain⟨k,hk,rfl⟩:=Ybs hx;rw[Yah,Yan]at hk;rw[Ycs,Ydr];exact hf _ _ (by omega) (by omega)
theorem Zawj {L:List Line} (hr:Zab L=true) {j:Nat} (hj:j<(Zat (Zal L)).length):
 ofS (((actP L).take ((Zat (Zal L)).getD (j+1) (Zal L).length)).filter Znt) Zht=ofS (((actP L).take (Zat (Zal L))[j]).filter Znt) Zht++if ownB (Zbd (Zal L) (Zat (Zal L))[j])then []else subL (Zal L) (Zat (Zal L))[j]:=by
 obtain⟨a1,a2,-,-⟩:=Zfe hr;obtain⟨g1,-,g3⟩:=Zbh.1 (Yaw hj);obtain⟨e1,e2⟩:=Zbb _ _ g1;rw[←Zazq a1 hj];obtain⟨i,hi⟩: ∃ i,(Zat (Zal L))[j]=i:=⟨_,rfl⟩;obtain⟨en,hen⟩: ∃ en,endB (Zal L) i=en:=⟨_,rfl⟩;rw[hi]at g1 g3 e1 e2⊢;have hth:=fun k (hk:k<(Zal L).length) h1 h2=>Zazp a1 g1 g3 (k:=k) hk h1 h2
 rw[hen]at hth e1 e2⊢;have hsl:(actP L).length=(Zal L).length:=by rw[←Zaf (Zal L),a2]
 have hpk: ∀ k (hk:k<(actP L).length),(actP L)[k]=pa (Zal L) k:=fun k hk=>by
  rw[Zfu (by omega:k<(Zal L).length)]
  exact Yen a2.symm _
 cases ho:ownB (Zbd (Zal L) i)with
 | true=>
   rw[Yam rfl,Ybg];congr 1;refine Znq (actP L) Znt (i:=i) (e:=en) (by omega) fun k hk h1 h2=> ?_
   rw[hpk];unfold Znt;rw[hth k (by omega) h1 h2,ho];rfl
 | false=>
   rw[Yab (by simp),Zajz (actP L) Znt (i:=i) (e:=en) (by omega) (fun k hk h1 h2=>by
    rw[hpk];unfold Znt;rw[hth k (by omega) h1 h2,ho];rfl)]
   unfold ofS;rw[Ybv];congr 1;unfold subL;rw[g3,hen]
   have hid:((Zal L).drop i).take (en-i)=(((actP L).drop i).take (en-i)).map (Zic Zht):=by
    rw[List.map_take,List.map_drop];rfl
   rw[hid,Yes];refine Yeg fun q _=> ?_
   show Zic Zht q=⟨(Zic Zht q).depth-0,(Zic Zht q).word,(Zic Zht q).mark⟩;rw[Int.sub_zero]
end Edt
namespace Go.Proofs.Zq
open Tryz
open Go Go.RowKit Go.Sort Tre Lx Prs Lns Edt Sch
theorem Zaqo (s:ByteArray) (w:World):Calls prog 89 #[.string s] w fun e w'=>e= .returned (.bool (ownB s))∧w'=w:=by
 unfold ownB;have hg:Zfc.toList= [103,114,111,117,112,115]:=by rw[Lib.toList_data];rfl
 have ha:Zfr.toList= [97,112,112,108,121]:=by rw[Lib.toList_data];rfl
 rw[hg,ha];cases h1:(s.toList== [103,114,111,117,112,115])with
 | true=>
   go_enter func89,ntmps89;go_wp2;go_ret;exact⟨rfl,rfl⟩
 | false=>
   cases h2:(s.toList== [97,112,112,108,121])with
   | true=>
     go_enter func89,ntmps89;go_wp2;go_ret;exact⟨rfl,rfl⟩
   | false=>
     go_enter func89,ntmps89;go_wp2;go_ret;exact⟨rfl,rfl⟩
theorem subL_len {L:List Line} {i:Nat} (hi:i<L.length):0<(subL L i).length∧(subL L i).length≤L.length:=by
 obtain⟨g1,g2⟩:=Zbb L i hi;unfold subL;rw[Yay,Yah,Yan];omega
theorem Zrb (v:Value) (L:List Line) (w:World) (hL:Lr w v L) (hr:Zab L=true):
 Calls prog 53 #[v] w fun e w'=>(∃ v',e= .returned (.tuple #[v', .int .i64 0])∧w'.ownsRow w.heap.size 62 3 v' (Zih L).length (lines (Zih L)))∧Below w.heap.size w w':=by
 obtain⟨j0,hj,hy0,hy1,hy2⟩:=info_parts Zii;have HA:=Zhd (Zpz v L w hL hr);have ha:=(Zfe hr).1;have HSt:=Zhd (fun j (hj:j<(Zat (Zal L)).length)=>Zawj hr hj)
 have HZ:=Zhd (Zazs ha);have HF:Hid (ofS ((actP L).filter Znt) Zht=Zih L):=rfl;have hsl:(actP L).length=(Zal L).length:=(Zlt _ _).symm;have HSl:=Zhd hsl;have HX:=Zhd (fun(A:Option Addr) (c:Nat) (W:World) (h1:Rd W 3 A (Zal L).length (lines (Zal L))) (h2:(Zal L).length≤c) (h3:c≤maxLen)=>Zyo A c (Zal L) W h1 h2 h3 ha)
 have HSb:=Zhd (fun(A:Option Addr) (c:Nat) (n:Nat) (W:World) (h1:Rd W 3 A (Zal L).length (lines (Zal L))) (h2:(Zal L).length≤c) (h3:c≤maxLen) (hn:n<(Zal L).length)=>Zact A c (Zal L) n W h1 h2 h3 ha hn)
 have h200:=Zau ha;unfold Zha at HX;unfold Zafw at HSb;have HKl:Hid (∀ j (hj:j<(Zat (Zal L)).length),(Zat (Zal L))[j]<(Zal L).length):=fun j hj=>(Zbh.1 (Yaw hj)).1
 have hkl:(Zat (Zal L)).length≤(Zal L).length:=kidsTo_len _ _ _ _;clear hL hr ha hsl;generalize hac:Zal L=a at *;generalize actP L=S at *;clear hac;go_enter func53,ntmps53;go_wp2_with fail;refine HA.out.mono ?_;rintro e w1 ⟨⟨v1,rfl,ho1⟩,hb1⟩;obtain⟨A,c,e1,g1,g2,g3⟩:=Zbj ho1;subst e1;have HB1:=Zhd hb1;have HR1:=Zhd g3;have HK1:=Zhd (HX.out A c w1 g3 g1 g2);clear HA ho1 hb1 g3 HX;go_wp2_with fail;refine HK1.out.mono ?_;rintro e w2 ⟨Ak,ck,rfl,-,-,hRk,hb2⟩;have HB2:=Zhd (Zaa HB1.out hb2);have HR2:=Zhd (HR1.out.below hb2);have HRk:=Zhd hRk;clear hRk hb2 HR1 HK1 HB1;obtain⟨K,hK⟩: ∃ K,Zat a=K:=⟨_,rfl⟩;rw[hK]at HSt HZ HRk HKl hkl⊢;clear hK;go_wp2;go_loopw [6,20] (fun vo vj wr=> ∃ j:Nat,vj= .int .i64 j∧j≤K.length∧Hid (wr.ownsRow w2.heap.size 62 3 vo (ofS ((S.take (K.getD j a.length)).filter Znt) Zht).length (lines (ofS ((S.take (K.getD j a.length)).filter Znt) Zht)))∧Hid (Below w2.heap.size w2 wr)) (fun _ vj _=>K.length-(intOf vj).toNat)
 case atStart=>
  refine⟨0,rfl,Yas _, ?_,Yag _ _⟩;show World.ownsRow _ _ _ _ _ _ _;rw[HZ.out];exact World.ownsRow_nil _ _ _ _
 case round=>
  obtain⟨j,rfl,hj',HO,HB⟩:=hrel;by_cases hlt:j<K.length
  · have hst:=HSt.out j hlt;have hil:=HKl.out j hlt;obtain⟨bk,ok,rfl,habk,haddk,xk⟩:=HRk.out.intAt hlt;have x0:=(HB.out.cell (p:=⟨bk,ok+j,none⟩) habk).trans xk;have hgd:K.getD j a.length=K[j]:=by rw[Yar,Yaj hlt];rfl
    rw[hgd]at HO;generalize K[j]=i at *;obtain⟨B,O,rfl,hab,hadd,-,y1,-⟩:=HR2.out.line hil;have x1:=(HB.out.cell (p:=⟨B,O+i*3+1,none⟩) hab).trans y1;have hwd:Zbd a i=a[i].word:=Zbe hil;rw[hwd]at hst;have HOw:=Zhd (Zaqo a[i].word wr);have hjI:(j:Int)<(K.length:Int):=by omega
    have hiI:(i:Int)<(a.length:Int):=by omega
    generalize a[i].word=sw at *
    have hol:(ofS ((S.take i).filter Znt) Zht).length≤200:=by
     rw[Zlt];exact Yat (Yck _ _) (by rw[Yah,HSl.out];omega)
    clear hgd hwd y1 xk;cases hon:ownB sw with
    | true=>
      rw[hon,Yam rfl,Ybg]at hst;rw[hon]at HOw;have ho:=HO.out;rw[←hst]at ho;have HO2:=Zhd ho;clear hst hon ho HO;go_wp2_with fail;refine HOw.out.mono ?_;rintro e w3 ⟨rfl,rfl⟩;go_wp2;go_roundw
      case rel=>exact⟨j+1,by go_num,by omega,HO2,HB⟩
      case measure=>simp[intOf];omega
    | false=>
      rw[hon,Yab (by simp)]at hst
      rw[hon]at HOw;have HSu:=Zhd (HSb.out (some ⟨B,O,none⟩) c i wr (HR2.out.below HB.out) g1 g2 hil);obtain⟨hs1,hs2⟩:=subL_len hil;generalize subL a i=M at *;have HS2:=Zhd hst;clear hst hon;go_wp2_with fail;refine HOw.out.mono ?_;rintro e w3 ⟨rfl,rfl⟩;go_wp2_with fail;refine HSu.out.mono ?_;rintro e w4 ⟨⟨v4,rfl,ho4⟩,hb4⟩;obtain⟨m,hm⟩: ∃ m,M.length=m+1:=⟨M.length-1,by omega⟩
      have ho4':=ho4;rw[hm]at ho4';obtain⟨q,cc,e4⟩:=Zda ho4';rw[←hm]at e4;subst e4;have HB4:=Zhd (Zaa HB.out hb4);have HO4:=Zhd (Zai HO.out hb4);have HSr:=Zhd (Zuc (Zqs ho4).1);have hml:=Zae M;clear ho4' hm ho4 hb4 HO HB HSu HOw;go_wp2_with (at_builtin;refine Zvr rfl _ _ 26 rfl w2 w4 62 j0 _ 3 32 underlying26 hj hy0 hy1 hy2 rfl (by decide) (by decide) HO4.out HB4.out rfl ⟨q,0,none⟩ M.length cc (lines M) rfl hml HSr.out (Zjz M) (by omega) ?_;intro v5 w5 hown5 hb5 hk5)
      have ho5:w5.ownsRow w2.heap.size 62 3 v5 (ofS ((S.take i).filter Znt) Zht++M).length (lines (ofS ((S.take i).filter Znt) Zht++M)):=by rw[Yae,Zbg];exact hown5
      rw[←HS2.out]at ho5;have HO5:=Zhd ho5;have HB5:=Zhd hb5;clear ho5 hown5 hb5 hk5 HO4 HB4 HSr hml;go_wp2_with fail;go_roundw
      case rel=>exact⟨j+1,by go_num,by omega,HO5,HB5⟩
      case measure=>simp[intOf];omega
  · have hje:K.getD j a.length=a.length:=by
     rw[Yar,List.getElem?_eq_none (by omega)];rfl
    have ho:=HO.out;rw[hje,Ybh (by rw[HSl.out];omega),HF.out]at ho
    have HO2:=Zhd ho;have hnI: ¬ ((j:Int)<(K.length:Int)):=by omega
    have HBf:=Zhd (Zaa HB2.out HB.out);have hz2:=HB2.out.size;clear ho hje HO;go_wp2;go_ret2;exact⟨⟨_,rfl,HO2.out.mono hz2⟩,HBf.out⟩
end Go.Proofs.Zq
namespace Edt
open Go Go.Lib Tre Sch Lns
def Zdk (L:List Line) (P:List ByteArray):List ByteArray:=
 match Zas L P with
 |some k=>(kidsB L k).map (Zbd L)
 |none=>if P.length=0 then(Zat L).map (Zbd L)else []
end Edt
namespace Go.Proofs.Zq
open Tryz
open Go Go.RowKit Go.Sort Tre Lx Prs Lns Edt Sch
theorem Zox {α β:Type} (f:α→β) (l:List α) {k:Nat} (h:k<l.length):(l.take (k+1)).map f=(l.take k).map f++ [f l[k]]:=by
 rw[Yax h,Ybv];rfl
theorem Zvf (v p:Value) (L:List Line) (P:List ByteArray) (w:World) (hL:Lr w v L) (hr:Zab L=true) (hP:Pr w p P):
 Calls prog 55 #[v,p] w fun e w'=>(∃ v',e= .returned v'∧w'.ownsRow w.heap.size 9 1 v' (Zdk L P).length (sv (Zdk L P)))∧Below w.heap.size w w':=by
 obtain⟨i0,hi,hz0,hz1,hz2⟩:=info_parts Zei;obtain⟨A,cap,rfl,hcap,hc,hR,hnil⟩:=hL;obtain⟨Ap,cp,rfl,hcp,hc2,hPr⟩:=hP;have hFi:=Zca A cap L Ap cp P w hR hcap hc hr hPr hcp hc2;have h200:=Zau hr;have HR:=Zhd hR;by_cases hno:Zas L P=none∧P.length≠0
 · have hW:Zdk L P= []:=by unfold Zdk;rw[hno.1];simp only;rw[Yab hno.2]
   rw[hno.1]at hFi;have HF:=Zhd hFi;have hp0:(0:Int)<(P.length:Int):=by omega
   rw[hW];clear hR hr hPr hFi hno hW HR;go_enter func55,ntmps55;go_wp2_with fail;refine HF.out.mono ?_;rintro e w2 ⟨rfl,hb2⟩;go_wp2;go_ret;exact⟨⟨_,rfl,World.ownsRow_nil _ _ _ _⟩,hb2⟩
 · have hcase:(∃ k,Zas L P=some k∧k<L.length)∨(Zas L P=none∧P= []):=by
    cases hf:Zas L P with
    |some k=>exact .inl ⟨k,rfl,Zcu hf⟩
    |none=>exact .inr ⟨rfl,Classical.byContradiction fun h=>hno ⟨hf,fun h0=>h (Yap h0)⟩⟩
   rcases hcase with⟨k,hf,hk⟩|⟨hf,rfl⟩
   · rw [hf,show Zrd (some k)=(k:Int)from rfl]at hFi;have HF:=Zhd hFi;have hW:Zdk L P=(kidsB L k).map (Zbd L):=by unfold Zdk;rw[hf]
     have HKd:=Zhd (fun(W:World) (hb:Below w.heap.size w W)=>Zor A cap L k W (hR.below hb) hcap hc hr hk)
     have HKl:Hid (∀ j (hj:j<(kidsB L k).length),(kidsB L k)[j]<L.length):=fun j hj=>by
      have h1:=(Zbh.1 (Yaw hj)).1;have h2:=(Zbb L k hk).2;omega
     have hkl:(kidsB L k).length≤L.length:=Yat (kidsTo_len _ _ _ _) (Zbb L k hk).2;rw[hW];unfold Zha at HKd;clear hR hr hPr hFi hf hno hW;generalize kidsB L k=K at *;go_enter func55,ntmps55;go_wp2_with fail;refine HF.out.mono ?_;rintro e w2 ⟨rfl,hb2⟩;have HB2:=Zhd hb2;have HK2:=Zhd (HKd.out w2 HB2.out);clear hb2 HF HKd;go_wp2_with fail;refine HK2.out.mono ?_;rintro e w3 ⟨Ak,ck,rfl,-,-,hRk,hb3⟩;have HB3:=Zhd (Zaa HB2.out hb3);have HRk:=Zhd hRk;have HR3:=Zhd (HR.out.below HB3.out);clear hRk hb3 HK2 HB2 HR;go_wp2;go_loopw [7,29] (fun vo vj wr=> ∃ j:Nat,vj= .int .i64 j∧j≤K.length∧Hid (wr.ownsRow w3.heap.size 9 1 vo ((K.take j).map (Zbd L)).length (sv ((K.take j).map (Zbd L))))∧Hid (Below w3.heap.size w3 wr)) (fun _ vj _=>K.length-(intOf vj).toNat)
     case atStart=>exact⟨0,rfl,Yas _,World.ownsRow_nil _ _ _ _,Yag _ _⟩
     case round=>
      obtain⟨j,rfl,hj',HO,HB⟩:=hrel;by_cases hlt:j<K.length
      · have hil:=HKl.out j hlt;obtain⟨bk,ok,rfl,habk,haddk,xk⟩:=HRk.out.intAt hlt;have x0:=(HB.out.cell (p:=⟨bk,ok+j,none⟩) habk).trans xk;have HS:=Zhd (Zox (Zbd L) K hlt);have hwd:Zbd L K[j]=L[K[j]].word:=Zbe hil;rw[hwd]at HS;obtain⟨B,O,rfl,hab,hadd,-,y1,-⟩:=HR3.out.line hil;have x1:=(HB.out.cell (p:=⟨B,O+K[j]*3+1,none⟩) hab).trans y1;have hjI:(j:Int)<(K.length:Int):=by omega
        have hiI:(K[j]:Int)<(L.length:Int):=by omega
        have hll:((K.take j).map (Zbd L)).length≤200:=by rw[Yay,Yah];omega
        generalize L[K[j]].word=sw at *;generalize K[j]=i at *;clear hwd y1 xk;go_wp2_with (at_builtin;refine Zfv rfl _ _ 34 rfl w3 wr 9 i0 _ 1 16 underlying34 hi hz0 hz1 hz2 rfl (by decide) (by decide) HO.out HB.out rfl 1 1 [.string sw] rfl rfl (by simp;rfl) (by omega) ?_;intro v4 w4 hown4 hb4)
        have ho4:=Zgh hown4;rw[←HS.out]at ho4;have HO4:=Zhd ho4;have HB4:=Zhd hb4;clear ho4 hown4 hb4 HO HB x0 x1;go_wp2_with fail;go_roundw
        case rel=>exact⟨j+1,by go_num,by omega,HO4,HB4⟩
        case measure=>simp[intOf];omega
      · have ho:=HO.out;rw[Ybh (by omega)]at ho
        have HO2:=Zhd ho;have hnI: ¬ ((j:Int)<(K.length:Int)):=by omega
        have HBf:=Zhd (Zaa HB3.out HB.out);have hz3:=HB3.out.size;clear ho HO;go_wp2;go_ret;exact⟨⟨_,rfl,(by have h:=HO2.out.mono hz3;rw[Yay]at h;exact h)⟩,HBf.out⟩
   · rw [hf]at hFi;have HF:=Zhd hFi;have hW:Zdk L []=(Zat L).map (Zbd L):=by unfold Zdk;rw[hf];rfl
     have HKd:=Zhd (fun(W:World) (hb:Below w.heap.size w W)=>Zyo A cap L W (hR.below hb) hcap hc hr)
     have HKl:Hid (∀ j (hj:j<(Zat L).length),(Zat L)[j]<L.length):=fun j hj=>(Zbh.1 (Yaw hj)).1
     have hkl:(Zat L).length≤L.length:=kidsTo_len _ _ _ _;rw[hW];unfold Zha at HKd;clear hR hr hPr hFi hf hno hW;generalize Zat L=K at *;go_enter func55,ntmps55;go_wp2_with fail;refine HF.out.mono ?_;rintro e w2 ⟨rfl,hb2⟩;have HB2:=Zhd hb2;have HK2:=Zhd (HKd.out w2 HB2.out);clear hb2 HF HKd;go_wp2_with fail;refine HK2.out.mono ?_;rintro e w3 ⟨Ak,ck,rfl,-,-,hRk,hb3⟩;have HB3:=Zhd (Zaa HB2.out hb3);have HRk:=Zhd hRk;have HR3:=Zhd (HR.out.below HB3.out);clear hRk hb3 HK2 HB2 HR;go_wp2;go_loopw [7,29] (fun vo vj wr=> ∃ j:Nat,vj= .int .i64 j∧j≤K.length∧Hid (wr.ownsRow w3.heap.size 9 1 vo ((K.take j).map (Zbd L)).length (sv ((K.take j).map (Zbd L))))∧Hid (Below w3.heap.size w3 wr)) (fun _ vj _=>K.length-(intOf vj).toNat)
     case atStart=>exact⟨0,rfl,Yas _,World.ownsRow_nil _ _ _ _,Yag _ _⟩
     case round=>
      obtain⟨j,rfl,hj',HO,HB⟩:=hrel;by_cases hlt:j<K.length
      · have hil:=HKl.out j hlt;obtain⟨bk,ok,rfl,habk,haddk,xk⟩:=HRk.out.intAt hlt;have x0:=(HB.out.cell (p:=⟨bk,ok+j,none⟩) habk).trans xk;have HS:=Zhd (Zox (Zbd L) K hlt);have hwd:Zbd L K[j]=L[K[j]].word:=Zbe hil;rw[hwd]at HS;obtain⟨B,O,rfl,hab,hadd,-,y1,-⟩:=HR3.out.line hil;have x1:=(HB.out.cell (p:=⟨B,O+K[j]*3+1,none⟩) hab).trans y1;have hjI:(j:Int)<(K.length:Int):=by omega
        have hiI:(K[j]:Int)<(L.length:Int):=by omega
        have hll:((K.take j).map (Zbd L)).length≤200:=by rw[Yay,Yah];omega
        generalize L[K[j]].word=sw at *;generalize K[j]=i at *;clear hwd y1 xk;go_wp2_with (at_builtin;refine Zfv rfl _ _ 34 rfl w3 wr 9 i0 _ 1 16 underlying34 hi hz0 hz1 hz2 rfl (by decide) (by decide) HO.out HB.out rfl 1 1 [.string sw] rfl rfl (by simp;rfl) (by omega) ?_;intro v4 w4 hown4 hb4)
        have ho4:=Zgh hown4;rw[←HS.out]at ho4;have HO4:=Zhd ho4;have HB4:=Zhd hb4;clear ho4 hown4 hb4 HO HB x0 x1;go_wp2_with fail;go_roundw
        case rel=>exact⟨j+1,by go_num,by omega,HO4,HB4⟩
        case measure=>simp[intOf];omega
      · have ho:=HO.out;rw[Ybh (by omega)]at ho
        have HO2:=Zhd ho;have hnI: ¬ ((j:Int)<(K.length:Int)):=by omega
        have HBf:=Zhd (Zaa HB3.out HB.out);have hz3:=HB3.out.size;clear ho HO;go_wp2;go_ret;exact⟨⟨_,rfl,(by have h:=HO2.out.mono hz3;rw[Yay]at h;exact h)⟩,HBf.out⟩
end Go.Proofs.Zq
namespace Edt
open Go Go.Lib Tre Sch Lns
def Zzi:ByteArray:=⟨#[42]⟩
def Zoe:List ByteArray→Option Nat
 | []=>none
 |z::r=>if z=Zzi then some 0 else(Zoe r).map (· +1)
theorem Zur: ∀ (zs:List ByteArray) (i:Nat),idxFromS zs Zzi i=match Zoe zs with|some k=>((i+k:Nat):Int)|none=> -1
 | [],i=>rfl
 | z ::r,i=>by
   unfold idxFromS Zoe;by_cases h:z=Zzi
   · rw[Yam h,Yam h];rfl
   · rw[Yab h,Yab h,Zur r (i+1)];cases Zoe r with
     |none=>rfl
     |some k=>show((i+1+k:Nat):Int)=((i+(k+1):Nat):Int);omega
theorem Zpq: ∀ {zs:List ByteArray} {k:Nat},Zoe zs=some k→k<zs.length
 | [],k,h=>by cases h
 | z ::r,k,h=>by
   unfold Zoe at h;split at h
   · injection h with h;subst h;simp
   · cases hq:Zoe r with
     |none=>rw[hq]at h;cases h
     | some j=>
       rw[hq]at h;injection h with h
       subst h;have:=Zpq hq;simp;omega
def Zkw (X:List Line):Nat→List ByteArray→Nat→List (List ByteArray)
 |0,P,_=> [P]
 | f+1,P,n=>match Zoe (P.drop n)with
   |none=> [P]
   |some a=>(Zdk X (P.take (n+a))).flatMap fun s=>Zkw X f (P.set (n+a) s) (n+a+1)
def Znp (X:List Line) (P:List ByteArray) (n:Nat):List (List ByteArray):=Zkw X (P.length-n) P n
theorem Zail {P:List ByteArray} {n:Nat} (h:P.length≤n):Zoe (P.drop n)=none:=by rw[Ybe h];rfl
theorem Zvx (X:List Line): ∀ (f g:Nat) (P:List ByteArray) (n:Nat),P.length-n≤f→P.length-n≤g→Zkw X f P n=Zkw X g P n
 |0,0,_,_,_,_=>rfl
 |0,g+1,P,n,h,_=>by unfold Zkw;rw[Zail (by omega)]
 |f+1,0,P,n,_,h=>by unfold Zkw;rw[Zail (by omega)]
 | f +1,g+1,P,n,h1,h2=>by
   unfold Zkw;cases hs:Zoe (P.drop n)with
   |none=>rfl
   | some a=>
     have:=Zpq hs;rw[Yan]at this;simp only;congr 1;funext s;exact Zvx X f g _ _ (by rw[Ycq];omega) (by rw[Ycq];omega)
theorem Zaod {X:List Line} {P:List ByteArray} {n:Nat} (h:Zoe (P.drop n)=none):Znp X P n= [P]:=by
 unfold Znp;cases hf:P.length-n with
 |zero=>rfl
 |succ f=>unfold Zkw;rw[h]
theorem Zaoe {X:List Line} {P:List ByteArray} {n a:Nat} (h:Zoe (P.drop n)=some a):Znp X P n=(Zdk X (P.take (n+a))).flatMap fun s=>Znp X (P.set (n+a) s) (n+a+1):=by
 have h2:=Zpq h;rw[Yan]at h2;unfold Znp;obtain⟨f,hf⟩: ∃ f,P.length-n=f+1:=⟨P.length-n-1,by omega⟩
 rw[hf]
 conv=>lhs;unfold Zkw
 rw[h];simp only;congr 1;funext s;exact Zvx X _ _ _ _ (by rw[Ycq];omega) (Yaf _)
def cntU (X:List Line) (U:List ByteArray):Nat:=(Zad X).countP (preB U)
theorem Zayr (U:List ByteArray):preB U U=true:=Zbn.2 ⟨[],by rw[Ybg]⟩
theorem Zbar {U V Q:List ByteArray} (h:preB (U++V) Q=true):preB U Q=true:=by
 obtain⟨s,hs⟩:=Zbn.1 h;exact Zbn.2 ⟨V++s,by rw[hs,Ybc]⟩
theorem Zbgd {X:List Line} {U V:List ByteArray}:cntU X (U++V)≤cntU X U:=List.countP_mono_left fun _ _ h=>Zbar h
theorem Zbbp {X:List Line} {U:List ByteArray} (h:U∈Zad X):0<cntU X U:=List.countP_pos_iff.2 ⟨U,h,Zayr U⟩
theorem Zbgc (X:List Line) (U:List ByteArray):cntU X U≤X.length:=by
 have:=List.countP_le_length (p:=preB U) (l:=Zad X)
 rwa [Zaf]at this
theorem Zasr (U:List ByteArray): ∀ (ws:List ByteArray),ws.Nodup→ ∀ l:List (List ByteArray),(ws.map fun s=>l.countP (preB (U++ [s]))).sum≤l.countP (preB U)
 | [],_,_=>Yas _
 | s::ws,hn,l=>by
   obtain⟨h1,h2⟩:=List.nodup_cons.1 hn;rw[Yej,List.sum_cons];have e1:=List.countP_eq_countP_filter_add l (preB U) (preB (U++ [s]))
   have e2:(l.filter (preB (U++ [s]))).countP (preB U)=l.countP (preB (U++ [s])):=by
    rw[List.countP_filter];refine List.countP_congr fun q _=> ?_
    simp only[Yaq];exact⟨fun h=>h.2,fun h=>⟨Zbar h,h⟩⟩
   have ih:=Zasr U ws h2 (l.filter fun q=> !preB (U++ [s]) q)
   have e3:(ws.map fun t=>(l.filter fun q=> !preB (U++ [s]) q).countP (preB (U++ [t])))=ws.map fun t=>l.countP (preB (U++ [t])):=by
    refine Yeg fun t ht=> ?_
    rw[List.countP_filter];refine List.countP_congr fun q _=> ?_
    simp only[Yaq,Ydp];refine⟨fun h=>h.1,fun h=>⟨h, ?_⟩⟩
    cases hq:preB (U++ [s]) q with
    |false=>rfl
    | true=>
      obtain⟨a,ha⟩:=Zbn.1 h;obtain⟨b,hb⟩:=Zbn.1 hq;rw[ha,Ybc,Ybc]at hb;have hb2:=List.append_cancel_left hb;injection hb2 with hb3
      exact absurd (hb3▸ht) h1
   rw[e3]at ih;omega
section
variable {X:List Line} (hr:Zab X=true)
include hr
theorem Zamd (U:List ByteArray):(Zdk X U).Nodup∧ ∀ s∈Zdk X U,U++ [s]∈Zad X:=by
 have key: ∀ K:List Nat,K.Pairwise (· < ·)→(∀ k∈K,k<X.length∧pa X k=U++ [Zbd X k])→(K.map (Zbd X)).Nodup∧ ∀ s∈K.map (Zbd X),U++ [s]∈Zad X:=fun K hK hp=>by
  refine⟨?_,fun s hs=> ?_⟩
  · unfold List.Nodup;rw[List.pairwise_map];refine hK.imp_of_mem fun {a b} ha hb hab e=> ?_
    have h1:=hp a ha;have h2:=hp b hb;have:=Zwj hr h1.1 h2.1 (by rw[h1.2,h2.2,e])
    omega
  · obtain⟨k,hk,rfl⟩:=Yct.1 hs;obtain⟨h1,h2⟩:=hp k hk;rw[←h2,Zfu h1];exact Yaw _
 unfold Zdk;cases hf:Zas X U with
 | some i=>
   obtain⟨hi,e⟩:=Zdn hr hf;refine key _ (Ztn X i) fun k hk=> ?_
   obtain⟨g1,g2,g3⟩:=Zbh.1 hk;have hkl:k<X.length:=by have:=(Zbb X i hi).2;omega
   obtain⟨s,hs⟩:=Ziy.1 ((Ztl hr hi hkl).2 ⟨g2,g1,g3⟩);have h3:=Zel hr hkl;rw[hs,List.getLastD_concat]at h3;exact⟨hkl,by rw[hs,h3,e]⟩
 | none=>
   by_cases h0:U.length=0
   · obtain rfl:U= []:=Yap h0;simp only[Ydz,if_true];refine key _ (Zmy X) fun k hk=> ?_
     obtain⟨g1,-,g3⟩:=Zbh.1 hk;have h2:=Zbz (Zac hr).2.1 g1;have h3:=Zel hr g1;rw[g3]at h2;refine⟨g1, ?_⟩;cases hp:pa X k with
     |nil=>rw[hp]at h2;simp at h2
     | cons a r=>
       rw[hp]at h2 h3;obtain rfl:r= []:=Yap (by simpa using h2)
       rw[←h3];rfl
   · simp only[Yab h0];exact⟨List.nodup_nil,fun s hs=>by cases hs⟩
theorem Zagp: ∀ (f:Nat) (P:List ByteArray) (n:Nat),(Zkw X f P n).length≤max 1 (cntU X (P.take n))
 |0,P,n=>by unfold Zkw;simp;omega
 | f + 1,P,n=>by
   unfold Zkw;cases hs:Zoe (P.drop n)with
   |none=>simp;omega
   | some a=>
     have ha:=Zpq hs;rw[Yan]at ha;obtain⟨w1,w2⟩:=Zamd hr (P.take (n+a));simp only;rw[List.length_flatMap]
     have h1:((Zdk X (P.take (n+a))).map fun s=>(Zkw X f (P.set (n+a) s) (n+a+1)).length).sum≤((Zdk X (P.take (n+a))).map fun s=>(Zad X).countP (preB (P.take (n+a)++ [s]))).sum:=by
      have gen: ∀ l:List ByteArray,(∀ s∈l,P.take (n+a)++ [s]∈Zad X)→(l.map fun s=>(Zkw X f (P.set (n+a) s) (n+a+1)).length).sum≤(l.map fun s=>(Zad X).countP (preB (P.take (n+a)++ [s]))).sum:=by
       intro l
       induction l with
       |nil=>intro _;exact Yaf _
       | cons s l ih=>
         intro hl;rw[Yej,List.sum_cons,Yej,List.sum_cons];have g1:=ih fun t ht=>hl t (Yca _ ht)
         have g2:=Zagp f (P.set (n+a) s) (n+a+1);have g3:(P.set (n+a) s).take (n+a+1)=P.take (n+a)++ [s]:=Go.Proofs.Zq.set_take P (n+a) s (by omega)
         rw[g3]at g2;have g4:=Zbbp (hl s (Ycg ..));have g5:(Zkw X f (P.set (n+a) s) (n+a+1)).length≤cntU X (P.take (n+a)++ [s]):=by omega
         have g6:cntU X (P.take (n+a)++ [s])=(Zad X).countP (preB (P.take (n+a)++ [s])):=rfl;omega
      exact gen _ w2
     have h2:=Zasr (P.take (n+a)) _ w1 (Zad X)
     have h3:(Zad X).countP (preB (P.take (n+a)))≤cntU X (P.take n):=by
      have e:P.take (n+a)=P.take n++(P.drop n).take a:=by rw[←List.take_add]
      rw[e];exact Zbgd
     omega
theorem Zta (P:List ByteArray) (n:Nat):(Znp X P n).length≤200:=by
 have h1:=Zagp hr (P.length-n) P n;have h2:=Zbgc X (P.take n);have h3:=(Zac hr).1;unfold Znp;omega
end
theorem Zop (X:List Line): ∀ (f:Nat) (P:List ByteArray) (n:Nat),∀ q∈Zkw X f P n,q.length=P.length
 | 0,P,n,q,h=>by
   unfold Zkw at h;rw[Ybu]at h;rw[h]
 | f +1,P,n,q,h=>by
   unfold Zkw at h;cases hs:Zoe (P.drop n)with
   |none=>rw[hs]at h;simp only at h;rw[Ybu]at h;rw[h]
   | some a=>
     rw[hs]at h;obtain⟨s,-,hq⟩:=Ydk.1 h;rw[Zop X f _ _ q hq,Ycq]
end Edt
namespace Go.Proofs.Zq
open Tryz
open Go Go.RowKit Go.Sort Tre Lx Prs Lns Edt Sch
def QOwn (w:World) (x:PV):Prop:= ∃ b o c,x.1= .slice (some ⟨b,o,none⟩) x.2.length c∧x.2.length≤c∧c≤maxLen∧Rd w 1 (some ⟨b,o,none⟩) x.2.length (sv x.2)∧ ∃ cur,w.heap[b]?=some (.cells cur 9 (0,0))
def QRow (w:World) (base:Nat) (v:Value) (Q:List PV):Prop:=w.ownsRow base 34 1 v Q.length (Q.map Prod.fst)∧ ∀ x∈Q,QOwn w x
theorem QOwn.same {w w':World} {x:PV} (h:QOwn w x) (hk: ∀ (b:Nat) (cur:Array Value),w.heap[b]?=some (.cells cur 9 (0,0))→w'.heap[b]?=some (.cells cur 9 (0,0))):QOwn w' x:=by
 obtain⟨b,o,c,h1,h2,h3,h4,cur,h5⟩:=h;have h6:=hk b cur h5;refine⟨b,o,c,h1,h2,h3,⟨h4.1,fun h0=>⟨_,rfl,(Ybf.1 h6).1,fun j u hu=> ?_⟩⟩,cur,h6⟩
 have h7:=Zuc h4 j u hu;rw[Zag]at h7⊢;rw[World.cell?_of_block (w:=w) (a:=⟨b,o+j,none⟩) (by rw[h6,h5])]
 exact h7
theorem QOwn.below {w w':World} {x:PV} (h:QOwn w x) (hb:Below w.heap.size w w'):QOwn w' x:=h.same fun b _ hh=>(hb.block b (Ybf.1 hh).1).trans hh
theorem QOwn.keep {w w':World} {x:PV} (h:QOwn w x) (k:Zbw 34 w w'):QOwn w' x:=h.same fun b cur hh=>k b cur _ (by decide) hh
theorem QOwn.pr {w:World} {x:PV} (h:QOwn w x):Pr w x.1 x.2:=by
 obtain⟨b,o,c,h1,h2,h3,h4,-⟩:=h;exact⟨_,c,h1,h2,h3,h4⟩
theorem QOwn.cell {w:World} {x:PV} (h:QOwn w x):x.1.oneCell'=true:=by
 obtain⟨b,o,c,h1,-⟩:=h;rw[h1];rfl
theorem QOwn.own {w:World} {base:Nat} {v:Value} {P:List ByteArray} (h:w.ownsRow base 9 1 v P.length (sv P)) (h0:0<P.length):QOwn w (v,P):=by
 obtain⟨A,c,e,g1,g2,g3⟩:=Zbj h;rcases h.2 with⟨-,hz⟩|⟨g,cap,cur,e2,-,hh,-⟩
 · omega
 · rw[e]at e2;injection e2 with e3 _ e4
   subst e3;exact⟨g,0,c,e,g1,g2,g3,cur,hh⟩
theorem QRow.below {w w':World} {base:Nat} {v:Value} {Q:List PV} (h:QRow w base v Q) (hb:Below w.heap.size w w'):QRow w' base v Q:=⟨Zai h.1 hb,fun x hx=>(h.2 x hx).below hb⟩
theorem Zrz (w:World) (base:Nat):QRow w base (.slice none 0 0) []:=⟨World.ownsRow_nil _ _ _ _,fun x hx=>by cases hx⟩
theorem Zyz {w w':World} {base:Nat} {v':Value} {Q R:List PV} (h:w'.ownsRow base 34 1 v' (Q.length+R.length) (Q.map Prod.fst++R.map Prod.fst)) (hq: ∀ y∈Q,QOwn w y) (hx: ∀ y∈R,QOwn w y) (k:Zbw 34 w w'):QRow w' base v' (Q++R):=by
 refine⟨by rw[Yae,Ybv];exact h,fun y hy=> ?_⟩
 rcases Ybn.1 hy with hy|hy
 · exact(hq y hy).keep k
 · exact(hx y hy).keep k
theorem Zqb {P:Program} {ops:Array Oper} {rest:List Oper} {o:Oper} {a:Act} {Q:Exit→Act→World→Prop} (hgd:o.guard=none) (s x:Operand) (t:TypeId)
 (ho:o.op= .call {callee:= .builtin .append,args:= #[s,x],argTypes:= #[t,t]})
 (w0 wr:World) (e:TypeId) (i:TypeInfo) (z:Value) (size bytes:Nat) (ht:P.underlying t=some (.slice e)) (hi:P.info? e=some i) (hz:i.zero=some z)
 (hsize:i.size=size) (hby:i.bytes=bytes) (hzs:z.cells.size=size) (hsz:0<size) (hb64:bytes≤64)
 {v:Value} {n:Nat} {xs:List Value} (hown:wr.ownsRow w0.heap.size e size v n xs) (hb:Below w0.heap.size w0 wr) (hs:a.eval s=v)
 (A:Option Addr) (m c:Nat) (news:List Value) (hx:a.eval x= .slice A m c) (hR:Rd wr size A m news) (hnil:A=none→c=0) (h1: ∀ u∈news,u.oneCell'=true)
 (hN:n+m≤1000000000)
 (h: ∀ v' w',w'.ownsRow w0.heap.size e size v' (n+m) (xs++news)→Below w0.heap.size w0 w'→Zbw e wr w'→wpList P ops Q rest (a.put o.dst v') w'):
 wpList P ops Q (o::rest) a wr:=by
 rcases A with _|ad
 · have hm:m=0:=by
    rcases Ybj m with h0|h0
    · exact h0
    · obtain⟨ad,h,-⟩:=hR.2 h0;cases h
   subst hm;have hn:news= []:=Yap (by simpa using hR.1)
   subst hn;obtain rfl:=hnil rfl;exact wpList_append_own_none hgd s x t ho w0.heap.size e i size ht hi v n xs hs hown hx (h v wr (by simpa using hown) hb (Zbw.refl _ _))
 · exact Zvr hgd s x t ho w0 wr e i z size bytes ht hi hz hsize hby hzs hsz hb64 hown hb hs ad m c news hx hR.1 (Zuc hR) h1 hN h
def Zjq (F:List (List ByteArray)) (w:World) (e:Ending) (w':World):Prop:=
 (∃ v Q,e= .returned v∧QRow w' w.heap.size v Q∧Q.map Prod.snd=F)∧Below w.heap.size w w'
theorem Zte {α β:Type} (f:α→List β) (l:List α) {k:Nat} (h:k<l.length):(l.take (k+1)).flatMap f=(l.take k).flatMap f++f l[k]:=by
 rw[Yax h,Ycf];simp
theorem Zbhh (P:List ByteArray) (k:Nat) (s:ByteArray):sv (P.set k s)=(sv P).set k (.string s):=by unfold sv;rw[List.map_set]
theorem Zadc {X:List Line} (U:List ByteArray):(Zdk X U).length≤X.length:=by
 unfold Zdk;cases hf:Zas X U with
 |some i=>simp only;rw[Yay];exact Yat (kidsTo_len _ _ _ _) (Zbb X i (Zcu hf)).2
 | none=>
   simp only;split
   · rw[Yay];exact kidsTo_len _ _ _ _
   · exact Yas _
theorem Ztb (vt p:Value) (X:List Line) (P:List ByteArray) (n:Nat) (w:World) (hX:Lr w vt X) (hr:Zab X=true) (hP:QOwn w (p,P)) (hn:n≤P.length) (h16:P.length≤16)
 (hrec: ∀ (W:World) (p':Value) (P':List ByteArray) (n':Nat) (z:Int),Below w.heap.size w W→QOwn W (p',P')→P'.length=P.length→n<n'→n'≤P.length→z=(n':Int)→Calls prog 92 #[vt,p', .int .i64 z] W (Zjq (Znp X P' n') W)):
 Calls prog 92 #[vt,p, .int .i64 (n:Int)] w (Zjq (Znp X P n) w):=by
 obtain⟨i0,hi,hz0,hz1,hz2⟩:=info_parts Zix;have HPq:=Zhd hP;obtain⟨b,o,c,e1,hc1,hc2,hR,cur,hh⟩:=hP;obtain rfl:p= .slice (some ⟨b,o,none⟩) P.length c:=e1;simp only at hc1 hR;have h200:=Zau hr
 have hcells: ∀ W,Below w.heap.size w W→ ∀ j,j<P.length→W.cell? ⟨b,o+j,none⟩=some (.string (P.getD j ByteArray.empty)):=fun W hb j hj=>by
  obtain⟨b',o',e',-,-,hx⟩:=(hR.below hb).strAt hj;cases e';rw[hx,Yar,Yaj hj];rfl
 have HCe:=Zhd hcells;have hcm:=hc2;unfold maxLen at hcm;have hnc1:(n:Int)≤(c:Int):=by omega
 have hnl1:(n:Int)≤(P.length:Int):=by omega
 have hf1:(P.length:Int)-(n:Int)=((P.length-n:Nat):Int):=by omega
 have hf2:(c:Int)-(n:Int)=((c-n:Nat):Int):=by omega
 unfold Zjq at hrec;cases hst:Zoe (P.drop n)with
 | none=>
   rw[Zaod hst]
   have HQ:Hid (QRow (w.alloc (.cells #[.slice (some ⟨b,o,none⟩) P.length c] 34)) w.heap.size (.slice (some ⟨w.heap.size,0,none⟩) 1 1) [(.slice (some ⟨b,o,none⟩) P.length c,P)]):=by
    refine⟨World.ownsRow_lit (e:=34) (size:=1) (base:=w.heap.size) w #[.slice (some ⟨b,o,none⟩) P.length c] 1 (Yaf _) (by unfold maxLen;omega) rfl,fun x hx=> ?_⟩
    rw[Ybu]at hx;rw[hx];exact HPq.out.below ((Yag _ _).alloc (Yaf _) _)
   have HB:=Zhd ((Yag w.heap.size w).alloc (Yaf _) (.cells #[.slice (some ⟨b,o,none⟩) P.length c] 34));have hidx:Lib.idxOfS (P.drop n) Zzi= -1:=by unfold Lib.idxOfS;rw[Zur,hst]
   by_cases hnl:n=P.length
   · have HI:=Zhd (fun(a:Option Addr) (c':Nat)=>Tryz.slices_Index_string_empty a c' Zzi w)
     have hem:Lib.idxOfS [] Zzi= -1:=rfl;rw[hem]at HI;have hz0':P.length-n=0:=by omega
     rw[hz0']at hf1;clear hrec hcells HCe hR hst hidx hcm;subst hnl;by_cases hcn:c=P.length
     · subst hcn;go_enter func92,ntmps92;go_wp2_with (go_at_call 124;refine(HI.out _ _).mono ?_;rintro e w2 ⟨rfl,rfl⟩);go_ret;unfold Zjq;exact⟨⟨_,_,rfl,HQ.out,rfl⟩,HB.out⟩
     · have hcn2: ¬ (P.length=c):=fun h=>hcn h.symm
       go_enter func92,ntmps92;go_wp2_with (go_at_call 124;refine(HI.out _ _).mono ?_;rintro e w2 ⟨rfl,rfl⟩);go_ret;unfold Zjq;exact⟨⟨_,_,rfl,HQ.out,rfl⟩,HB.out⟩
   · have HI:=Zhd (Tryz.slices_Index_string b (o+n) (P.length-n) (c-n) (P.drop n) Zzi w (by rw[Yan];omega) (by omega) (fun j hj=>by
      rw[Yan]at hj;have:=hcells w (Yag _ _) (n+j) (by omega)
      rw[Ydn,this,Yar,Yar,Ycp]))
     rw[Ybh (by rw[Yan];omega),hidx]at HI
     have hcn: ¬ (c=n):=by omega
     have hcn2: ¬ (n=c):=by omega
     clear hrec hcells HCe hR hst hidx hcm;go_enter func92,ntmps92;go_wp2_with (go_at_call 124;refine HI.out.mono ?_;rintro e w2 ⟨rfl,rfl⟩);go_ret;unfold Zjq;exact⟨⟨_,_,rfl,HQ.out,rfl⟩,HB.out⟩
 | some a=>
   have ha:=Zpq hst;rw[Yan]at ha
   have HI:=Zhd (Tryz.slices_Index_string b (o+n) (P.length-n) (c-n) (P.drop n) Zzi w (by rw[Yan];omega) (by omega) (fun j hj=>by
    rw[Yan]at hj;have:=hcells w (Yag _ _) (n+j) (by omega)
    rw[Ydn,this,Yar,Yar,Ycp]))
   have hidx:Lib.idxOfS (P.drop n) Zzi=(a:Int):=by unfold Lib.idxOfS;rw[Zur,hst];simp
   rw[Ybh (by rw[Yan];omega),hidx]at HI
   have hfs:=Zaoe (X:=X) hst;obtain⟨k,hk⟩: ∃ k,n+a=k:=⟨_,rfl⟩;rw[hk]at hfs;have hkl:k<P.length:=by omega
   have hsum:(a:Int)+(n:Int)=(k:Int):=by omega
   have HWd:=Zhd (Zvf vt (.slice (some ⟨b,o,none⟩) k c) X (P.take k))
   have HPt:Hid (∀ W,Below w.heap.size w W→Pr W (.slice (some ⟨b,o,none⟩) k c) (P.take k)):=fun W hb=>by
    refine⟨_,c,by rw[Yah,Yba (Yem hkl)],by rw[Yah];omega,hc2, ?_⟩
    rw[Yah,Yba (Yem hkl)];exact Zgv (hR.below hb) (Yem hkl)
   have HXl:=Zhd (fun(W:World) (hb:Below w.heap.size w W)=>hX.below hb)
   have hwl:=Zadc (X:=X) (P.take k);have HFl:=Zhd (fun s=>Zta hr (P.set k s) (k+1))
   have HRec:=Zhd (fun(W:World) (p':Value) (s:ByteArray) (z:Int) (hb:Below w.heap.size w W) (hq:QOwn W (p',P.set k s)) (hz:z=((k+1:Nat):Int))=>hrec W p' (P.set k s) (k+1) z hb hq Ycq (by omega) (by omega) hz)
   have HRt:=Zhd hr;have hcn: ¬ (c=n):=by omega
   have hcn2: ¬ (n=c):=by omega
   have hk0:(0:Int)≤(k:Int):=by omega
   have hkc:(k:Int)≤(c:Int):=by omega
   have hkw:IntKind.i64.wrap (k:Int)=(k:Int):=by rw[IntKind.wrap_i64];omega
   have hkw1:IntKind.i64.wrap ((k:Int)+1)=(k:Int)+1:=by rw[IntKind.wrap_i64];omega
   have hkI:(k:Int)<(P.length:Int):=by omega
   have ha0: ¬ (a:Int)<0:=by omega
   rw[hfs];clear hrec hcells hst hidx hfs ha hk hR hX hr;go_enter func92,ntmps92;go_wp2_with (go_at_call 124;refine HI.out.mono ?_;rintro e w2 ⟨rfl,rfl⟩);have HW2:=Zhd (HWd.out w2 (HXl.out w2 (Yag _ _)) HRt.out (HPt.out w2 (Yag _ _)));clear HWd HPt HI;refine HW2.out.mono ?_;rintro e w3 ⟨⟨v3,rfl,ho3⟩,hb3⟩;obtain⟨Aw,cw,e1,-,-,hRw⟩:=Zbj ho3;subst e1;have HB3:=Zhd hb3;have HRw:=Zhd hRw;obtain⟨ws,hws⟩: ∃ ws,Zdk X (P.take k)=ws:=⟨_,rfl⟩;rw[hws]at HRw hwl⊢;have HWs:=Zhd hws;clear ho3 hb3 hRw HW2 hws hnc1 hnl1 hf1 hf2 hcn hcn2 hsum ha0;go_wp2;go_loopw [8,29] (fun vo vj wr=> ∃ (j:Nat) (Q:List PV),vj= .int .i64 j∧j≤ws.length∧Q.length≤200*j∧Hid (QRow wr w3.heap.size vo Q)∧Hid (Q.map Prod.snd=(ws.take j).flatMap fun s=>Znp X (P.set k s) (k+1))∧Hid (Below w3.heap.size w3 wr)) (fun _ vj _=>ws.length-(intOf vj).toNat)
   case atStart=>exact⟨0,[],rfl,Yas _,Yas _,Zrz _ _,rfl,Yag _ _⟩
   case round=>
    obtain⟨j,Q,rfl,hj',hQl,HQ,HM,HB⟩:=hrel;by_cases hlt:j<ws.length
    · obtain⟨bw,ow,rfl,habw,haddw,xw⟩:=HRw.out.strAt hlt;have x0:=(HB.out.cell (p:=⟨bw,ow+j,none⟩) habw).trans xw;have HS:=Zhd (Zte (fun s=>Znp X (P.set k s) (k+1)) ws hlt)
      have HFs:=HFl.out ws[j];have HRs:=Zhd (fun W p'=>HRec.out W p' ws[j])
      have hjI:(j:Int)<(ws.length:Int):=by omega
      generalize ws[j]=s at *;have HCl:=Zhd (Tryz.slices_Clone_string b o P.length c P wr (Yaf _) (by omega) (HCe.out wr (Zaa HB3.out HB.out)))
      clear xw;go_wp2_with fail;refine HCl.out.mono ?_;rintro e w4 ⟨v4,rfl,ho4,-,hb4⟩;rw[Ybw]at ho4;have ho4:w4.ownsRow wr.heap.size 9 1 v4 P.length (sv P):=ho4;obtain⟨m,hm⟩: ∃ m,P.length=m+1:=⟨P.length-1,by omega⟩
      have ho4':=ho4;rw[hm]at ho4';obtain⟨q,cc,e4⟩:=Zda ho4';rw[←hm]at e4;subst e4;have HB4:=Zhd (Zaa HB.out hb4);have HQ4:=Zhd (HQ.out.below hb4);have hqw:wr.heap.size≤q:=(ho4.lt q rfl).1;have hqw3:w3.heap.size≤q:=Yat HB.out.size hqw
      have y1:w4.cell? ⟨q,k,none⟩=some (.string P[k]):=by
       rw[ho4.cellAt k (by omega),Zks hkl]
      have y2:w4.frozen? ⟨q,k,none⟩=false:=ho4.frozenAt _;have hst5:=(ho4.stored k (.string s)).1;rw[←Zbhh]at hst5
      have HP5:Hid (QOwn (w4.setCell ⟨q,k,none⟩ (.string s)) (.slice (some ⟨q,0,none⟩) P.length cc,P.set k s)):=by
       have:=QOwn.own (P:=P.set k s) (by rw[Ycq];exact hst5) (by rw[Ycq];omega)
       exact this
      have HB5:=Zhd (HB4.out.setCell (p:=⟨q,k,none⟩) hqw3 (.string s));have hb45:=hb4.setCell (p:=⟨q,k,none⟩) hqw (.string s);have HQ5:=Zhd (HQ.out.below hb45);have HR5:=Zhd (HRs.out (w4.setCell ⟨q,k,none⟩ (.string s)) (.slice (some ⟨q,0,none⟩) P.length cc) ((k:Int)+1) (Zaa HB3.out HB5.out) HP5.out rfl);have HB5w:=HB5;obtain⟨w5,hw5⟩: ∃ w5,w4.setCell ⟨q,k,none⟩ (.string s)=w5:=⟨_,rfl⟩;rw[hw5]at HB5 HQ5 HR5;clear ho4 ho4' hm hb4 hst5 HP5 hb45 HB4 HQ4 HQ HB HCl HRs HB5w x0;go_wp2_with fail;refine HR5.out.mono ?_;rintro e w6 ⟨⟨v6,Q6,rfl,hq6,hm6⟩,hb6⟩;obtain⟨A6,c6,e6,-,-,hR6,hnil6,-⟩:=Zcr hq6.1;subst e6;have HB6:=Zhd (Zaa HB5.out hb6);have HQ6:=Zhd (HQ5.out.below hb6);have hq6l:Q6.length≤200:=by
       have:(Q6.map Prod.snd).length≤200:=by rw[hm6];exact HFs
       rwa [Yay]at this
      have HN6:=Zhd hnil6;have HR6:=Zhd hR6;have HO6:=Zhd hq6.2;have HM6:=Zhd hm6;clear hb6 hq6 hm6 hnil6 hR6 HR5 HQ5 HB5 y1 y2 hw5;go_wp2_with (at_builtin;refine Zqb rfl _ _ 71 rfl w3 w6 34 i0 _ 1 24 underlying71 hi hz0 hz1 hz2 rfl (by decide) (by decide) HQ6.out.1 HB6.out rfl A6 Q6.length c6 (Q6.map Prod.fst) rfl HR6.out HN6.out (by intro u hu;obtain⟨y,hy,rfl⟩:=Yct.1 hu;exact(HO6.out y hy).cell) (by omega) ?_;intro v8 w8 hown8 hb8 hk8)
      have HQ8:=Zhd (Zyz hown8 HQ6.out.2 HO6.out hk8)
      have HM8:Hid ((Q++Q6).map Prod.snd=(ws.take (j+1)).flatMap fun s=>Znp X (P.set k s) (k+1)):=by
       show _=_;rw[HS.out,Ybv,HM.out,HM6.out]
      have HB8:=Zhd hb8;clear hown8 hb8 hk8 HQ6 HB6 HR6 HN6 HO6 HM6 HS HM;go_wp2_with fail;go_roundw
      case rel=>exact⟨j+1,Q++Q6,by go_num,by omega,by rw[Yae];omega,HQ8,HM8,HB8⟩
      case measure=>simp[intOf];omega
    · have hjf:ws.take j=ws:=Ybh (by omega)
      rw[hjf]at HM;have hnI: ¬ ((j:Int)<(ws.length:Int)):=by omega
      have HBf:=Zhd (Zaa HB3.out HB.out);have hz3:=HB3.out.size;clear hjf;go_wp2;go_ret;unfold Zjq;exact⟨⟨_,Q,rfl,⟨HQ.out.1.mono hz3,HQ.out.2⟩,by rw[HWs.out];exact HM.out⟩,HBf.out⟩
theorem Zvy: ∀ (f:Nat) (vt p:Value) (X:List Line) (P:List ByteArray) (n:Nat) (w:World),P.length-n≤f→Lr w vt X→Zab X=true→QOwn w (p,P)→n≤P.length→P.length≤16→
 Calls prog 92 #[vt,p, .int .i64 (n:Int)] w (Zjq (Znp X P n) w)
 |0,vt,p,X,P,n,w,hf,hX,hr,hP,hn,h16=>Ztb vt p X P n w hX hr hP hn h16 fun W p' P' n' z _ _ _ h1 h2 _=>by omega
 | f+1,vt,p,X,P,n,w,hf,hX,hr,hP,hn,h16=>Ztb vt p X P n w hX hr hP hn h16 fun W p' P' n' z hb hq hl h1 h2 hz=>by
   rw[hz];exact Zvy f vt p' X P' n' W (by omega) (hX.below hb) hr hq (by omega) (by omega)
end Go.Proofs.Zq
