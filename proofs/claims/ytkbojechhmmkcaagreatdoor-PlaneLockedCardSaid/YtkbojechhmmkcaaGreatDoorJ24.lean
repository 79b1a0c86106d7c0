import Derived.Test.YtkbojechhmmkcaaGreatDoorJ23
set_option linter.unusedVariables false
set_option linter.unusedSimpArgs false
set_option maxHeartbeats 4000000
set_option maxRecDepth 100000
namespace Sch
open Go Go.Lib Adr Mtr Tre
def shf (d:Int) (l:Line):Line:=⟨l.depth-d,l.word,l.mark⟩
def shTo (M:List Line) (d:Int) (k:Nat):List Line:=(M.take k).map (shf d)++M.drop k
theorem Zaes (M:List Line) (d:Int) (k:Nat):(shTo M d k).length=M.length:=by
 unfold shTo;rw[Yak,Yaz,Yaf,Yam];omega
theorem Zanr (M:List Line) (d:Int):shTo M d 0=M:=by unfold shTo;simp
theorem Zasu (M:List Line) (d:Int):shTo M d M.length=M.map (shf d):=by unfold shTo;simp
theorem Zawo {M:List Line} {d:Int} {k:Nat} (h:k<M.length):(shTo M d k)[k]'(by rw[Zaes];exact h)=M[k]:=by
 unfold shTo;rw[Yec (by rw[Yaz,Yaf];omega)]
 simp only[Yaz,Yaf,Ybb (Yeb h),Yep];rw[Ydl];rfl
theorem Zanq {M:List Line} {d:Int} {k:Nat} (h:k<M.length):lines (shTo M d (k+1))=(lines (shTo M d k)).set (k*3) (.int .i64 (M[k].depth-d)):=by
 unfold shTo;rw[Yay h,Yaw h,Ybu,Ybm];show lines ((M.take k).map (shf d)++([shf d M[k]]++M.drop (k+1)))=_;rw[Zba,Zba,Zba,Zna];have hl:(lines ((M.take k).map (shf d))).length=k*3:=by rw[Zad,Yaz,Yaf,Ybb (Yeb h)]
 have h2:lines (M[k]::M.drop (k+1))= [.int .i64 M[k].depth, .string M[k].word, .int .i64 M[k].mark]++lines (M.drop (k+1)):=by
  rw[show M[k]::M.drop (k+1)= [M[k]]++M.drop (k+1)from rfl,Zba,Zna];rfl
 rw[h2,List.set_append_right _ _ (by omega),hl,Yep]
 rfl
theorem Zaof (L:List Line) (n:Nat):((L.drop n).take (endB L n-n)).map (shf (Zao L n))=subL L n:=rfl
end Sch
namespace Go.Proofs.Zq
open Tryz
open Go Go.RowKit Go.Sort Sch Adr Mtr Tre
theorem Zafz (ad:Addr) (n c:Nat) (M:List Line) (w:World) (hR:Rd w 3 (some ad) n (lines M)) (hn:M.length=n) (hb:n≤1000000):
 Calls prog 68 #[.slice (some ad) n c] w fun e w'=>(∃ v,e= .returned v∧w'.ownsRow w.heap.size 62 3 v n (lines M))∧Below w.heap.size w w':=by
 obtain⟨i0,hii,hz0,hz1,hz2⟩:=info_parts Zkv;obtain⟨wo,hwo⟩: ∃ wo,w.alloc (.cells #[] 62)=wo:=⟨_,rfl⟩;have hbo:Below w.heap.size w wo:=by rw[←hwo];exact(Yae _ _).alloc (Yag _) _
 have hown:wo.ownsRow w.heap.size 62 3 (.slice (some ⟨w.heap.size,0,none⟩) 0 0) 0 []:=by
  rw[←hwo];have:=World.ownsRow_lit (e:=62) (size:=3) (base:=w.heap.size) w #[] 0 (Yag _) (by unfold maxLen;omega) rfl
  simpa using this
 have HR:=Zhd (hR.below hbo);have HO:=Zhd hown;have HBo:=Zhd hbo;have HM:=Zhd hn;have HC:Hid (∀ u∈lines M,u.oneCell'=true):=Ziv _;have heq:=fun wx:World=>Lib.run_eql_slice_nil (P:=prog) wx 26 62 (some ad) n c 0 0 underlying26
 have HN:Hid (0+n≤1000000000):=by show _≤_;omega
 clear hR hown hbo hn;go_enter func68,ntmps68;go_wp2_with (at_builtin;(refine Zaaa rfl _ _ 26 rfl w wo 62 i0 _ 3 32 underlying26 hii hz0 hz1 hz2 rfl (by decide) (by decide) HO.out HBo.out rfl (some ad) n c (lines M) rfl HR.out (fun h=>by cases h) HC.out HN.out ?_;intro v1 w3 hown1 hb3))
 have HO3:Hid (w3.ownsRow w.heap.size 62 3 v1 n (lines M)):=by show World.ownsRow _ _ _ _ _ _ _;simpa using hown1
 clear hown1;go_wp2_with fail;go_ret;exact⟨⟨_,rfl,HO3.out⟩,hb3⟩
def Zacs (L:List Line) (n:Nat) (w:World) (e:Ending) (w':World):Prop:=
 (∃ v,e= .returned v∧w'.ownsRow w.heap.size 62 3 v (subL L n).length (lines (subL L n)))∧Below w.heap.size w w'
theorem Zzn (A:Option Addr) (cap:Nat) (L:List Line) (n:Nat) (w:World) (hR:Rd w 3 A L.length (lines L)) (hcap:L.length≤cap) (hc:cap≤maxLen) (hr:Zab L=true) (hn:n<L.length):
 Calls prog 90 #[.slice A L.length cap, .int .i64 n] w (Zacs L n w):=by
 have HTh:=Zgp A cap L n w hR hcap hc;rw[Zfm hr hn]at HTh;have HT:=Zhd HTh;have HEn:=Zhd (fun W (hb:Below w.heap.size w W)=>Zxt A cap L n W (hR.below hb) hcap hc hr hn)
 have he:=Zbc L n hn;obtain⟨B,O,rfl,hab,hadd,x0,-,-⟩:=hR.line hn;have h200:=Zas hr;have hdb:=Zmh hr hn;have HD:Hid (Zao L n=L[n].depth):=Zau hn;have HSH:=Zhd (Zaof L n);have hMR:Rd w 3 (some ⟨B,O+n*3,none⟩) (endB L n-n) (lines ((L.drop n).take (endB L n-n))):=Zwm (by rw[Yam];exact Zrz hR (Yeb hn)) (by rw[Yam];omega)
 have hMl:((L.drop n).take (endB L n-n)).length=endB L n-n:=by rw[Yaf,Yam];omega
 have HMD:Hid (∀ k,(h:k<((L.drop n).take (endB L n-n)).length)→0≤((L.drop n).take (endB L n-n))[k].depth∧((L.drop n).take (endB L n-n))[k].depth<16):=fun k h=>by
  rw[Ycs,Ydl];exact Zmh hr _
 have HX0:=Zhd x0;unfold maxLen at hc;generalize endB L n=E at *;have hsub:(E:Int)-(n:Int)=((E-n:Nat):Int):=by omega
 have hsub2:(cap:Int)-(n:Int)=((cap-n:Nat):Int):=by omega
 have hnE:(n:Int)≤(E:Int):=by omega
 have hEc:(E:Int)≤(cap:Int):=by omega
 have hnc: ¬ (cap=n):=by omega
 have hnc2: ¬ (n=cap):=by omega
 rw[HD.out]at HSH;generalize L[n].depth=d at *;generalize (L.drop n).take (E-n)=M at *;have HMR:=Zhd hMR;have HML:=Zhd hMl;have hdb1:=hdb.1;have hdb2:=hdb.2;have HRL:=Zhd hR;have hEL:E-n≤1000000:=by omega
 clear hR hMR hMl hdb x0;go_enter func90,ntmps90;go_wp2_with fail;refine HT.out.mono ?_;rintro e w1 ⟨rfl,hb1⟩;have HB1:=Zhd hb1;clear HT HTh hb1;go_wp2_with fail;refine(HEn.out w1 HB1.out).mono ?_;rintro e w2 ⟨rfl,hb2⟩;have HB2:=Zhd (Zaa HB1.out hb2);clear HEn HB1 hb2;have HCl:=Zhd (Zafz ⟨B,O+n*3,none⟩ (E-n) (cap-n) M w2 (HMR.out.below HB2.out) HML.out hEL);have HB2z:Hid (w.heap.size≤w2.heap.size):=HB2.out.size;go_wp2_with fail;refine HCl.out.mono ?_;rintro e w3 ⟨⟨v,rfl,hown⟩,hb3⟩;have HB3:=Zhd (Zaa HB2.out hb3);have hown':=Zlc hown HB2z.out
 obtain⟨g,c5,hv⟩: ∃ g c5,v= .slice (some ⟨g,0,none⟩) (E-n) c5:=by
  rcases hown'.2 with⟨-,h⟩|⟨g,cap',cur,h,-⟩
  · omega
  · exact⟨g,cap',h⟩
 subst hv;have hg:=(hown'.lt g rfl).1
 have HO:Hid (w3.ownsRow w.heap.size 62 3 (.slice (some ⟨g,0,none⟩) (E-n) c5) (E-n) (lines (shTo M d 0))):=by
  show World.ownsRow _ _ _ _ _ _ _;rw[Zanr];exact hown'
 have hcc:E-n≤c5∧c5≤maxLen:=by
  rcases hown'.2 with⟨h,-⟩|⟨g',cap',cur,h,-,-,h1,h2,-⟩
  · cases h
  · injection h with h3 h4 h5
    subst h5;exact⟨h1,h2⟩
 have HCC:=Zhd hcc;clear HCl hown hown' hb3 HB2 HB2z;generalize E-n=m at *;go_wp2;go_loopw [20] (fun vi wr=> ∃ k:Nat,k≤m∧vi= .int .i64 k∧Hid (wr.ownsRow w.heap.size 62 3 (.slice (some ⟨g,0,none⟩) m c5) m (lines (shTo M d k)))∧Hid (Below w.heap.size w wr)) (fun vi _=>m-(intOf vi).toNat)
 case atStart=>exact⟨0,Yao _,rfl,HO,HB3⟩
 case round=>
  clear HO HB3;obtain⟨k,hk,rfl,HO,HB⟩:=hrel;by_cases hlt:k<m
  · have hkM:k<M.length:=by rw[HML.out];exact hlt
    have hkc:=HO.out.cellAt (k*3) (by omega)
    have hfz:=HO.out.frozenAt (k*3);have hxb:=HMD.out k hkM;have hst:=HO.out.stored (k*3) (.int .i64 (M[k].depth-d));rw[←Zanq hkM]at hst
    have hget:(lines (shTo M d k))[k*3]?=some (.int .i64 M[k].depth):=by
     have:=Zhu (shTo M d k) k 0 (by rw[Zaes];exact hkM) (by omega)
     rw[Zawo hkM]at this;simpa[Line.cells]using this
    rw[hget]at hkc;have y0:=(HB.out.cell (p:=⟨B,O+n*3,none⟩) hab).trans HX0.out;have hadd2:(⟨g,0,none⟩:Addr).add (k*3)=⟨g,k*3,none⟩:=by rw[Zag];simp
    have hmi:(k:Int)<(m:Int):=by omega
    have hk0:(0:Int)≤(k:Int):=by omega
    have hni:(n:Int)<(L.length:Int):=by omega
    have hn0:(0:Int)≤(n:Int):=by omega
    generalize M[k].depth=x at *;obtain⟨hx1,hx2⟩:=hxb;have HST:=Zhd hst;clear hst hget;go_wp2_with fail;go_still_tail 13,(by kernel_rfl)
    change wpList _ _ _ _ _ wr.drew;have HS2:Hid ((wr.drew.setCell ⟨g,k*3,none⟩ (.int .i64 (x-d))).ownsRow w.heap.size 62 3 (.slice (some ⟨g,0,none⟩) m c5) m (lines (shTo M d (k+1)))):=HST.out.1.drew;have HB4:Hid (Below w.heap.size w (wr.drew.setCell ⟨g,k*3,none⟩ (.int .i64 (x-d)))):=(below_drewN HB.out 1).setCell hg _;clear HST HB HO;go_wp2;go_roundw
    case rel=>exact⟨k+1,by omega,by go_num,HS2,HB4⟩
    case measure=>simp[intOf];omega
  · obtain rfl:k=m:=by omega
    have HF:Hid (Zacs L n w (.returned (.slice (some ⟨g,0,none⟩) k c5)) wr):=by
     refine⟨⟨_,rfl, ?_⟩,HB.out⟩;rw[←HSH.out,Yaz,HML.out];have:=HO.out;rw[←HML.out]at this
     conv at this=>rhs;rw[Zasu]
     rw[HML.out]at this;exact this
    clear HO HB;go_wp2;go_ret;exact HF.out
end Go.Proofs.Zq
namespace Edt
open Go Go.Lib Tre Sch Lns
def Zec:ByteArray:=⟨#[103,114,111,117,112,115]⟩
def Zgz:ByteArray:=⟨#[97,112,112,108,121]⟩
def ownB (s:ByteArray):Bool:=(s.toList==Zec.toList)||(s.toList==Zgz.toList)
def Zmy (q:List ByteArray):Bool:= !ownB (q.headD ⟨#[]⟩)
def expP (L:List Line):List (List ByteArray):=(actP L).filter Zmy
def Ziq (L:List Line):List Line:=ofS (expP L) Zhn
theorem Zof {L:List Line} (hr:Zab L=true):Zab (Ziq L)=true∧Zaf (Ziq L)=expP L∧(∀ q,q∈expP L→stB (Ziq L) q=0)∧ ∀ q,¬ q∈expP L→stB (Ziq L) q= -1:=by
 have hl1:=Yce Zmy (actP L);have hl2:=Yce (onB L) (Zaf L);rw[Zae]at hl2;refine Znf (Zsu (Zact hr) fun q hq h=> ?_) (Yas hl1 (Yas hl2 (Zac hr).1)) fun q hq=>⟨Zib hr (Ydg.1 (Ydg.1 hq).1).1,Int.le_refl _,(by show(0:Int)≤3;decide)⟩
 cases q with
 |nil=>exact .inl rfl
 | cons a r=>
   cases r with
   |nil=>exact .inl rfl
   |cons b r=>exact .inr h
section
variable {L:List Line} (hr:Zab L=true)
include hr
theorem Zath:(Zaq L).getD 0 L.length=0:=by
 have hs:=Zlh L;rcases Ybn L.length with h0|h0
 · have:Zaq L= []:=by unfold Zaq kidsTo;rw[h0];rfl
   rw[this,h0];rfl
 · have hm:0∈Zaq L:=Zbb.2 ⟨h0,Yag _,Zvd (Zac hr).2.1 h0⟩;cases hk:Zaq L with
   |nil=>rw[hk]at hm;cases hm
   | cons a r=>
     rw[hk]at hm hs;rcases Yax.1 hm with h|h
     · rw[←h];rfl
     · have:=(Ycd.1 hs).1 0 h;omega
theorem Zatf {j:Nat} (hj:j<(Zaq L).length):endB L (Zaq L)[j]=(Zaq L).getD (j+1) L.length:=by
 have hs:=Zlh L;have hmem:=Yau hj;obtain⟨g1,-,g3⟩:=Zbb.1 hmem;obtain⟨e1,e2⟩:=Zbc L _ g1;rw[Yds]at hs
 have hin: ∀ k,(Zaq L)[j]<k→k<endB L (Zaq L)[j]→ ¬ k∈Zaq L:=fun k h1 h2 h3=>by
  have h4:=Zto g1 h1 h2;have h5:=(Zbb.1 h3).2.2;omega
 by_cases hn:j+1<(Zaq L).length
 · rw [Yaq,Yaj hn,Yfa];have h1:=hs j (j+1) hj hn (by omega)
   have h2:endB L (Zaq L)[j]≤(Zaq L)[j+1]:=by
    rcases Ybr (Zaq L)[j+1] (endB L (Zaq L)[j])with h|h
    · exact absurd (Yau hn) (hin _ h1 h)
    · exact h
   have h3:=(Zbb.1 (Yau hn)).1;have h4:endB L (Zaq L)[j]<L.length:=by omega
   have h5:=Zqy g1 h4;have h6:=(Zby (Zac hr).2.1 h4).1;have h7:endB L (Zaq L)[j]∈Zaq L:=Zbb.2 ⟨h4,Yao _,by omega⟩
   obtain⟨k,hk,hk2⟩:=Ybo h7;rcases Nat.lt_trichotomy k (j+1)with h|h|h
   · rcases Ybr k j with h8|h8
     · have:=hs k j hk hj h8;omega
     · have h9:k=j:=by omega
       subst h9;omega
   · subst h;omega
   · have:=hs (j+1) k hn hk h;omega
 · rw [Yaq,List.getElem?_eq_none (by omega),Option.getD_none]
   rcases Ybr (endB L (Zaq L)[j]) L.length with h4|h4
   · have h5:=Zqy g1 h4;have h6:=(Zby (Zac hr).2.1 h4).1;have h7:endB L (Zaq L)[j]∈Zaq L:=Zbb.2 ⟨h4,Yao _,by omega⟩
     obtain⟨k,hk,hk2⟩:=Ybo h7;rcases Ybr k j with h8|h8
     · have:=hs k j hk hj h8;omega
     · have h9:k=j:=by omega
       subst h9;omega
   · omega
theorem Zate {i k:Nat} (hi:i<L.length) (hd:Zao L i=0) (hk:k<L.length) (h1:i≤k) (h2:k<endB L i):(pa L k).headD ⟨#[]⟩=Zbf L i:=by
 obtain⟨s,hs⟩:=(Zdr hr hi hk).2 ⟨h1,h2⟩;have h3:=Zbt (Zac hr).2.1 hi;have h4:=Zex hr hi;rw[hd]at h3;cases hp:pa L i with
 |nil=>rw[hp]at h3;simp at h3
 | cons a r=>
   rw[hp]at h3 h4 hs;have hr0:r= []:=Yar (by simpa using h3)
   subst hr0;rw[hs,←h4];rfl
end
theorem Zagk {α:Type} (l:List α) (f:α→Bool) {i e:Nat} (h:i≤e) (hf: ∀ k (hk:k<l.length),i≤k→k<e→f l[k]=true):(l.take e).filter f=(l.take i).filter f++(l.drop i).take (e-i):=by
 have e1:l.take e=l.take i++(l.drop i).take (e-i):=by
  rw[←List.take_add];congr 1;omega
 rw[e1,Yco];congr 1;rw[List.filter_eq_self];intro x hx;obtain⟨k,hk,rfl⟩:=Ybo hx;rw[Yaf,Yam]at hk;rw[Ycs,Ydl];exact hf _ _ (by omega) (by omega)
theorem Zaqb {L:List Line} (hr:Zab L=true) {j:Nat} (hj:j<(Zaq (Zal L)).length):
 ofS (((actP L).take ((Zaq (Zal L)).getD (j+1) (Zal L).length)).filter Zmy) Zhn=ofS (((actP L).take (Zaq (Zal L))[j]).filter Zmy) Zhn++if ownB (Zbf (Zal L) (Zaq (Zal L))[j])then []else subL (Zal L) (Zaq (Zal L))[j]:=by
 obtain⟨a1,a2,-,-⟩:=Zef hr;obtain⟨g1,-,g3⟩:=Zbb.1 (Yau hj);obtain⟨e1,e2⟩:=Zbc _ _ g1;rw[←Zatf a1 hj];obtain⟨i,hi⟩: ∃ i,(Zaq (Zal L))[j]=i:=⟨_,rfl⟩;obtain⟨en,hen⟩: ∃ en,endB (Zal L) i=en:=⟨_,rfl⟩;rw[hi]at g1 g3 e1 e2⊢;have hth:=fun k (hk:k<(Zal L).length) h1 h2=>Zate a1 g1 g3 (k:=k) hk h1 h2
 rw[hen]at hth e1 e2⊢;have hsl:(actP L).length=(Zal L).length:=by rw[←Zae (Zal L),a2]
 have hpk: ∀ k (hk:k<(actP L).length),(actP L)[k]=pa (Zal L) k:=fun k hk=>by
  rw[Zfj (by omega:k<(Zal L).length)]
  exact List.getElem_of_eq a2.symm _
 cases ho:ownB (Zbf (Zal L) i)with
 | true=>
   rw[Yan rfl,Ybg];congr 1;refine Zma (actP L) Zmy (i:=i) (e:=en) (by omega) fun k hk h1 h2=> ?_
   rw[hpk];unfold Zmy;rw[hth k (by omega) h1 h2,ho];rfl
 | false=>
   rw[Yad (by simp),Zagk (actP L) Zmy (i:=i) (e:=en) (by omega) (fun k hk h1 h2=>by
    rw[hpk];unfold Zmy;rw[hth k (by omega) h1 h2,ho];rfl)]
   unfold ofS;rw[Ybu];congr 1;unfold subL;rw[g3,hen]
   have hid:((Zal L).drop i).take (en-i)=(((actP L).drop i).take (en-i)).map (Zht Zhn):=by
    rw[List.map_take,List.map_drop];rfl
   rw[hid,Yeo];refine List.map_congr_left fun q _=> ?_
   show Zht Zhn q=⟨(Zht Zhn q).depth-0,(Zht Zhn q).word,(Zht Zhn q).mark⟩;rw[Int.sub_zero]
end Edt
namespace Go.Proofs.Zq
open Tryz
open Go Go.RowKit Go.Sort Tre Lx Prs Lns Edt Sch
theorem Zami (s:ByteArray) (w:World):Calls prog 89 #[.string s] w fun e w'=>e= .returned (.bool (ownB s))∧w'=w:=by
 unfold ownB;have hg:Zec.toList= [103,114,111,117,112,115]:=by rw[Lib.toList_data];rfl
 have ha:Zgz.toList= [97,112,112,108,121]:=by rw[Lib.toList_data];rfl
 rw[hg,ha];cases h1:(s.toList== [103,114,111,117,112,115])with
 | true=>
   go_enter func89,ntmps89;go_wp2;go_ret;exact⟨rfl,rfl⟩
 | false=>
   cases h2:(s.toList== [97,112,112,108,121])with
   | true=>
     go_enter func89,ntmps89;go_wp2;go_ret;exact⟨rfl,rfl⟩
   | false=>
     go_enter func89,ntmps89;go_wp2;go_ret;exact⟨rfl,rfl⟩
theorem subL_len {L:List Line} {i:Nat} (hi:i<L.length):0<(subL L i).length∧(subL L i).length≤L.length:=by
 obtain⟨g1,g2⟩:=Zbc L i hi;unfold subL;rw[Yaz,Yaf,Yam];omega
theorem Zpc (v:Value) (L:List Line) (w:World) (hL:Lr w v L) (hr:Zab L=true):
 Calls prog 53 #[v] w fun e w'=>(∃ v',e= .returned (.tuple #[v', .int .i64 0])∧w'.ownsRow w.heap.size 62 3 v' (Ziq L).length (lines (Ziq L)))∧Below w.heap.size w w':=by
 obtain⟨j0,hj,hy0,hy1,hy2⟩:=info_parts Zhg;have HA:=Zhd (Znz v L w hL hr);have ha:=(Zef hr).1;have HSt:=Zhd (fun j (hj:j<(Zaq (Zal L)).length)=>Zaqb hr hj)
 have HZ:=Zhd (Zath ha);have HF:Hid (ofS ((actP L).filter Zmy) Zhn=Ziq L):=rfl;have hsl:(actP L).length=(Zal L).length:=(Zme _ _).symm;have HSl:=Zhd hsl;have HX:=Zhd (fun(A:Option Addr) (c:Nat) (W:World) (h1:Rd W 3 A (Zal L).length (lines (Zal L))) (h2:(Zal L).length≤c) (h3:c≤maxLen)=>Zvz A c (Zal L) W h1 h2 h3 ha)
 have HSb:=Zhd (fun(A:Option Addr) (c:Nat) (n:Nat) (W:World) (h1:Rd W 3 A (Zal L).length (lines (Zal L))) (h2:(Zal L).length≤c) (h3:c≤maxLen) (hn:n<(Zal L).length)=>Zzn A c (Zal L) n W h1 h2 h3 ha hn)
 have h200:=Zas ha;unfold Zgc at HX;unfold Zacs at HSb;have HKl:Hid (∀ j (hj:j<(Zaq (Zal L)).length),(Zaq (Zal L))[j]<(Zal L).length):=fun j hj=>(Zbb.1 (Yau hj)).1
 have hkl:(Zaq (Zal L)).length≤(Zal L).length:=kidsTo_len _ _ _ _;clear hL hr ha hsl;generalize hac:Zal L=a at *;generalize actP L=S at *;clear hac;go_enter func53,ntmps53;go_wp2_with fail;refine HA.out.mono ?_;rintro e w1 ⟨⟨v1,rfl,ho1⟩,hb1⟩;obtain⟨A,c,e1,g1,g2,g3⟩:=Zbe ho1;subst e1;have HB1:=Zhd hb1;have HR1:=Zhd g3;have HK1:=Zhd (HX.out A c w1 g3 g1 g2);clear HA ho1 hb1 g3 HX;go_wp2_with fail;refine HK1.out.mono ?_;rintro e w2 ⟨Ak,ck,rfl,-,-,hRk,hb2⟩;have HB2:=Zhd (Zaa HB1.out hb2);have HR2:=Zhd (HR1.out.below hb2);have HRk:=Zhd hRk;clear hRk hb2 HR1 HK1 HB1;obtain⟨K,hK⟩: ∃ K,Zaq a=K:=⟨_,rfl⟩;rw[hK]at HSt HZ HRk HKl hkl⊢;clear hK;go_wp2;go_loopw [6,20] (fun vo vj wr=> ∃ j:Nat,vj= .int .i64 j∧j≤K.length∧Hid (wr.ownsRow w2.heap.size 62 3 vo (ofS ((S.take (K.getD j a.length)).filter Zmy) Zhn).length (lines (ofS ((S.take (K.getD j a.length)).filter Zmy) Zhn)))∧Hid (Below w2.heap.size w2 wr)) (fun _ vj _=>K.length-(intOf vj).toNat)
 case atStart=>
  refine⟨0,rfl,Yao _, ?_,Yae _ _⟩;show World.ownsRow _ _ _ _ _ _ _;rw[HZ.out];exact World.ownsRow_nil _ _ _ _
 case round=>
  obtain⟨j,rfl,hj',HO,HB⟩:=hrel;by_cases hlt:j<K.length
  · have hst:=HSt.out j hlt;have hil:=HKl.out j hlt;obtain⟨bk,ok,rfl,habk,haddk,xk⟩:=HRk.out.intAt hlt;have x0:=(HB.out.cell (p:=⟨bk,ok+j,none⟩) habk).trans xk;have hgd:K.getD j a.length=K[j]:=by rw[Yaq,Yaj hlt];rfl
    rw[hgd]at HO;generalize K[j]=i at *;obtain⟨B,O,rfl,hab,hadd,-,y1,-⟩:=HR2.out.line hil;have x1:=(HB.out.cell (p:=⟨B,O+i*3+1,none⟩) hab).trans y1;have hwd:Zbf a i=a[i].word:=Zbj hil;rw[hwd]at hst;have HOw:=Zhd (Zami a[i].word wr);have hjI:(j:Int)<(K.length:Int):=by omega
    have hiI:(i:Int)<(a.length:Int):=by omega
    generalize a[i].word=sw at *
    have hol:(ofS ((S.take i).filter Zmy) Zhn).length≤200:=by
     rw[Zme];exact Yas (Yce _ _) (by rw[Yaf,HSl.out];omega)
    clear hgd hwd y1 xk;cases hon:ownB sw with
    | true=>
      rw[hon,Yan rfl,Ybg]at hst;rw[hon]at HOw;have ho:=HO.out;rw[←hst]at ho;have HO2:=Zhd ho;clear hst hon ho HO;go_wp2_with fail;refine HOw.out.mono ?_;rintro e w3 ⟨rfl,rfl⟩;go_wp2;go_roundw
      case rel=>exact⟨j+1,by go_num,by omega,HO2,HB⟩
      case measure=>simp[intOf];omega
    | false=>
      rw[hon,Yad (by simp)]at hst
      rw[hon]at HOw;have HSu:=Zhd (HSb.out (some ⟨B,O,none⟩) c i wr (HR2.out.below HB.out) g1 g2 hil);obtain⟨hs1,hs2⟩:=subL_len hil;generalize subL a i=M at *;have HS2:=Zhd hst;clear hst hon;go_wp2_with fail;refine HOw.out.mono ?_;rintro e w3 ⟨rfl,rfl⟩;go_wp2_with fail;refine HSu.out.mono ?_;rintro e w4 ⟨⟨v4,rfl,ho4⟩,hb4⟩;obtain⟨m,hm⟩: ∃ m,M.length=m+1:=⟨M.length-1,by omega⟩
      have ho4':=ho4;rw[hm]at ho4';obtain⟨q,cc,e4⟩:=Zck ho4';rw[←hm]at e4;subst e4;have HB4:=Zhd (Zaa HB.out hb4);have HO4:=Zhd (Zah HO.out hb4);have HSr:=Zhd (Zsa (Zor ho4).1);have hml:=Zad M;clear ho4' hm ho4 hb4 HO HB HSu HOw;go_wp2_with (at_builtin;refine Ztl rfl _ _ 26 rfl w2 w4 62 j0 _ 3 32 underlying26 hj hy0 hy1 hy2 rfl (by decide) (by decide) HO4.out HB4.out rfl ⟨q,0,none⟩ M.length cc (lines M) rfl hml HSr.out (Ziu M) (by omega) ?_;intro v5 w5 hown5 hb5 hk5)
      have ho5:w5.ownsRow w2.heap.size 62 3 v5 (ofS ((S.take i).filter Zmy) Zhn++M).length (lines (ofS ((S.take i).filter Zmy) Zhn++M)):=by rw[Yak,Zba];exact hown5
      rw[←HS2.out]at ho5;have HO5:=Zhd ho5;have HB5:=Zhd hb5;clear ho5 hown5 hb5 hk5 HO4 HB4 HSr hml;go_wp2_with fail;go_roundw
      case rel=>exact⟨j+1,by go_num,by omega,HO5,HB5⟩
      case measure=>simp[intOf];omega
  · have hje:K.getD j a.length=a.length:=by
     rw[Yaq,List.getElem?_eq_none (by omega)];rfl
    have ho:=HO.out;rw[hje,Ybk (by rw[HSl.out];omega),HF.out]at ho
    have HO2:=Zhd ho;have hnI: ¬ ((j:Int)<(K.length:Int)):=by omega
    have HBf:=Zhd (Zaa HB2.out HB.out);have hz2:=HB2.out.size;clear ho hje HO;go_wp2;go_ret2;exact⟨⟨_,rfl,HO2.out.mono hz2⟩,HBf.out⟩
end Go.Proofs.Zq
namespace Edt
open Go Go.Lib Tre Sch Lns
def Zdb (L:List Line) (P:List ByteArray):List ByteArray:=
 match Zar L P with
 |some k=>(kidsB L k).map (Zbf L)
 |none=>if P.length=0 then(Zaq L).map (Zbf L)else []
end Edt
namespace Go.Proofs.Zq
open Tryz
open Go Go.RowKit Go.Sort Tre Lx Prs Lns Edt Sch
theorem Znc {α β:Type} (f:α→β) (l:List α) {k:Nat} (h:k<l.length):(l.take (k+1)).map f=(l.take k).map f++ [f l[k]]:=by
 rw[Yaw h,Ybu];rfl
theorem Zsy (v p:Value) (L:List Line) (P:List ByteArray) (w:World) (hL:Lr w v L) (hr:Zab L=true) (hP:Pr w p P):
 Calls prog 55 #[v,p] w fun e w'=>(∃ v',e= .returned v'∧w'.ownsRow w.heap.size 9 1 v' (Zdb L P).length (sv (Zdb L P)))∧Below w.heap.size w w':=by
 obtain⟨i0,hi,hz0,hz1,hz2⟩:=info_parts Zdz;obtain⟨A,cap,rfl,hcap,hc,hR,hnil⟩:=hL;obtain⟨Ap,cp,rfl,hcp,hc2,hPr⟩:=hP;have hFi:=Zbq A cap L Ap cp P w hR hcap hc hr hPr hcp hc2;have h200:=Zas hr;have HR:=Zhd hR;by_cases hno:Zar L P=none∧P.length≠0
 · have hW:Zdb L P= []:=by unfold Zdb;rw[hno.1];simp only;rw[Yad hno.2]
   rw[hno.1]at hFi;have HF:=Zhd hFi;have hp0:(0:Int)<(P.length:Int):=by omega
   rw[hW];clear hR hr hPr hFi hno hW HR;go_enter func55,ntmps55;go_wp2_with fail;refine HF.out.mono ?_;rintro e w2 ⟨rfl,hb2⟩;go_wp2;go_ret;exact⟨⟨_,rfl,World.ownsRow_nil _ _ _ _⟩,hb2⟩
 · have hcase:(∃ k,Zar L P=some k∧k<L.length)∨(Zar L P=none∧P= []):=by
    cases hf:Zar L P with
    |some k=>exact .inl ⟨k,rfl,Zce hf⟩
    |none=>exact .inr ⟨rfl,Classical.byContradiction fun h=>hno ⟨hf,fun h0=>h (Yar h0)⟩⟩
   rcases hcase with⟨k,hf,hk⟩|⟨hf,rfl⟩
   · rw [hf,show Zpd (some k)=(k:Int)from rfl]at hFi;have HF:=Zhd hFi;have hW:Zdb L P=(kidsB L k).map (Zbf L):=by unfold Zdb;rw[hf]
     have HKd:=Zhd (fun(W:World) (hb:Below w.heap.size w W)=>Zmz A cap L k W (hR.below hb) hcap hc hr hk)
     have HKl:Hid (∀ j (hj:j<(kidsB L k).length),(kidsB L k)[j]<L.length):=fun j hj=>by
      have h1:=(Zbb.1 (Yau hj)).1;have h2:=(Zbc L k hk).2;omega
     have hkl:(kidsB L k).length≤L.length:=Yas (kidsTo_len _ _ _ _) (Zbc L k hk).2;rw[hW];unfold Zgc at HKd;clear hR hr hPr hFi hf hno hW;generalize kidsB L k=K at *;go_enter func55,ntmps55;go_wp2_with fail;refine HF.out.mono ?_;rintro e w2 ⟨rfl,hb2⟩;have HB2:=Zhd hb2;have HK2:=Zhd (HKd.out w2 HB2.out);clear hb2 HF HKd;go_wp2_with fail;refine HK2.out.mono ?_;rintro e w3 ⟨Ak,ck,rfl,-,-,hRk,hb3⟩;have HB3:=Zhd (Zaa HB2.out hb3);have HRk:=Zhd hRk;have HR3:=Zhd (HR.out.below HB3.out);clear hRk hb3 HK2 HB2 HR;go_wp2;go_loopw [7,29] (fun vo vj wr=> ∃ j:Nat,vj= .int .i64 j∧j≤K.length∧Hid (wr.ownsRow w3.heap.size 9 1 vo ((K.take j).map (Zbf L)).length (sv ((K.take j).map (Zbf L))))∧Hid (Below w3.heap.size w3 wr)) (fun _ vj _=>K.length-(intOf vj).toNat)
     case atStart=>exact⟨0,rfl,Yao _,World.ownsRow_nil _ _ _ _,Yae _ _⟩
     case round=>
      obtain⟨j,rfl,hj',HO,HB⟩:=hrel;by_cases hlt:j<K.length
      · have hil:=HKl.out j hlt;obtain⟨bk,ok,rfl,habk,haddk,xk⟩:=HRk.out.intAt hlt;have x0:=(HB.out.cell (p:=⟨bk,ok+j,none⟩) habk).trans xk;have HS:=Zhd (Znc (Zbf L) K hlt);have hwd:Zbf L K[j]=L[K[j]].word:=Zbj hil;rw[hwd]at HS;obtain⟨B,O,rfl,hab,hadd,-,y1,-⟩:=HR3.out.line hil;have x1:=(HB.out.cell (p:=⟨B,O+K[j]*3+1,none⟩) hab).trans y1;have hjI:(j:Int)<(K.length:Int):=by omega
        have hiI:(K[j]:Int)<(L.length:Int):=by omega
        have hll:((K.take j).map (Zbf L)).length≤200:=by rw[Yaz,Yaf];omega
        generalize L[K[j]].word=sw at *;generalize K[j]=i at *;clear hwd y1 xk;go_wp2_with (at_builtin;refine Zfq rfl _ _ 34 rfl w3 wr 9 i0 _ 1 16 underlying34 hi hz0 hz1 hz2 rfl (by decide) (by decide) HO.out HB.out rfl 1 1 [.string sw] rfl rfl (by simp;rfl) (by omega) ?_;intro v4 w4 hown4 hb4)
        have ho4:=Zfh hown4;rw[←HS.out]at ho4;have HO4:=Zhd ho4;have HB4:=Zhd hb4;clear ho4 hown4 hb4 HO HB x0 x1;go_wp2_with fail;go_roundw
        case rel=>exact⟨j+1,by go_num,by omega,HO4,HB4⟩
        case measure=>simp[intOf];omega
      · have ho:=HO.out;rw[Ybk (by omega)]at ho
        have HO2:=Zhd ho;have hnI: ¬ ((j:Int)<(K.length:Int)):=by omega
        have HBf:=Zhd (Zaa HB3.out HB.out);have hz3:=HB3.out.size;clear ho HO;go_wp2;go_ret;exact⟨⟨_,rfl,(by have h:=HO2.out.mono hz3;rw[Yaz]at h;exact h)⟩,HBf.out⟩
   · rw [hf]at hFi;have HF:=Zhd hFi;have hW:Zdb L []=(Zaq L).map (Zbf L):=by unfold Zdb;rw[hf];rfl
     have HKd:=Zhd (fun(W:World) (hb:Below w.heap.size w W)=>Zvz A cap L W (hR.below hb) hcap hc hr)
     have HKl:Hid (∀ j (hj:j<(Zaq L).length),(Zaq L)[j]<L.length):=fun j hj=>(Zbb.1 (Yau hj)).1
     have hkl:(Zaq L).length≤L.length:=kidsTo_len _ _ _ _;rw[hW];unfold Zgc at HKd;clear hR hr hPr hFi hf hno hW;generalize Zaq L=K at *;go_enter func55,ntmps55;go_wp2_with fail;refine HF.out.mono ?_;rintro e w2 ⟨rfl,hb2⟩;have HB2:=Zhd hb2;have HK2:=Zhd (HKd.out w2 HB2.out);clear hb2 HF HKd;go_wp2_with fail;refine HK2.out.mono ?_;rintro e w3 ⟨Ak,ck,rfl,-,-,hRk,hb3⟩;have HB3:=Zhd (Zaa HB2.out hb3);have HRk:=Zhd hRk;have HR3:=Zhd (HR.out.below HB3.out);clear hRk hb3 HK2 HB2 HR;go_wp2;go_loopw [7,29] (fun vo vj wr=> ∃ j:Nat,vj= .int .i64 j∧j≤K.length∧Hid (wr.ownsRow w3.heap.size 9 1 vo ((K.take j).map (Zbf L)).length (sv ((K.take j).map (Zbf L))))∧Hid (Below w3.heap.size w3 wr)) (fun _ vj _=>K.length-(intOf vj).toNat)
     case atStart=>exact⟨0,rfl,Yao _,World.ownsRow_nil _ _ _ _,Yae _ _⟩
     case round=>
      obtain⟨j,rfl,hj',HO,HB⟩:=hrel;by_cases hlt:j<K.length
      · have hil:=HKl.out j hlt;obtain⟨bk,ok,rfl,habk,haddk,xk⟩:=HRk.out.intAt hlt;have x0:=(HB.out.cell (p:=⟨bk,ok+j,none⟩) habk).trans xk;have HS:=Zhd (Znc (Zbf L) K hlt);have hwd:Zbf L K[j]=L[K[j]].word:=Zbj hil;rw[hwd]at HS;obtain⟨B,O,rfl,hab,hadd,-,y1,-⟩:=HR3.out.line hil;have x1:=(HB.out.cell (p:=⟨B,O+K[j]*3+1,none⟩) hab).trans y1;have hjI:(j:Int)<(K.length:Int):=by omega
        have hiI:(K[j]:Int)<(L.length:Int):=by omega
        have hll:((K.take j).map (Zbf L)).length≤200:=by rw[Yaz,Yaf];omega
        generalize L[K[j]].word=sw at *;generalize K[j]=i at *;clear hwd y1 xk;go_wp2_with (at_builtin;refine Zfq rfl _ _ 34 rfl w3 wr 9 i0 _ 1 16 underlying34 hi hz0 hz1 hz2 rfl (by decide) (by decide) HO.out HB.out rfl 1 1 [.string sw] rfl rfl (by simp;rfl) (by omega) ?_;intro v4 w4 hown4 hb4)
        have ho4:=Zfh hown4;rw[←HS.out]at ho4;have HO4:=Zhd ho4;have HB4:=Zhd hb4;clear ho4 hown4 hb4 HO HB x0 x1;go_wp2_with fail;go_roundw
        case rel=>exact⟨j+1,by go_num,by omega,HO4,HB4⟩
        case measure=>simp[intOf];omega
      · have ho:=HO.out;rw[Ybk (by omega)]at ho
        have HO2:=Zhd ho;have hnI: ¬ ((j:Int)<(K.length:Int)):=by omega
        have HBf:=Zhd (Zaa HB3.out HB.out);have hz3:=HB3.out.size;clear ho HO;go_wp2;go_ret;exact⟨⟨_,rfl,(by have h:=HO2.out.mono hz3;rw[Yaz]at h;exact h)⟩,HBf.out⟩
end Go.Proofs.Zq
namespace Edt
open Go Go.Lib Tre Sch Lns
def Zwq:ByteArray:=⟨#[42]⟩
def Zml:List ByteArray→Option Nat
 | []=>none
 |z::r=>if z=Zwq then some 0 else(Zml r).map (· +1)
theorem Zso: ∀ (zs:List ByteArray) (i:Nat),idxFromS zs Zwq i=match Zml zs with|some k=>((i+k:Nat):Int)|none=> -1
 | [],i=>rfl
 | z ::r,i=>by
   unfold idxFromS Zml;by_cases h:z=Zwq
   · rw[Yan h,Yan h];rfl
   · rw[Yad h,Yad h,Zso r (i+1)];cases Zml r with
     |none=>rfl
     |some k=>show((i+1+k:Nat):Int)=((i+(k+1):Nat):Int);omega
theorem Znt: ∀ {zs:List ByteArray} {k:Nat},Zml zs=some k→k<zs.length
 | [],k,h=>by cases h
 | z ::r,k,h=>by
   unfold Zml at h;split at h
   · injection h with h;subst h;simp
   · cases hq:Zml r with
     |none=>rw[hq]at h;cases h
     | some j=>
       rw[hq]at h;injection h with h
       subst h;have:=Znt hq;simp;omega
def Zjm (X:List Line):Nat→List ByteArray→Nat→List (List ByteArray)
 |0,P,_=> [P]
 | f+1,P,n=>match Zml (P.drop n)with
   |none=> [P]
   |some a=>(Zdb X (P.take (n+a))).flatMap fun s=>Zjm X f (P.set (n+a) s) (n+a+1)
def Zlz (X:List Line) (P:List ByteArray) (n:Nat):List (List ByteArray):=Zjm X (P.length-n) P n
theorem Zafb {P:List ByteArray} {n:Nat} (h:P.length≤n):Zml (P.drop n)=none:=by rw[Ybe h];rfl
theorem Ztp (X:List Line): ∀ (f g:Nat) (P:List ByteArray) (n:Nat),P.length-n≤f→P.length-n≤g→Zjm X f P n=Zjm X g P n
 |0,0,_,_,_,_=>rfl
 |0,g+1,P,n,h,_=>by unfold Zjm;rw[Zafb (by omega)]
 |f+1,0,P,n,_,h=>by unfold Zjm;rw[Zafb (by omega)]
 | f +1,g+1,P,n,h1,h2=>by
   unfold Zjm;cases hs:Zml (P.drop n)with
   |none=>rfl
   | some a=>
     have:=Znt hs;rw[Yam]at this;simp only;congr 1;funext s;exact Ztp X f g _ _ (by rw[Ycm];omega) (by rw[Ycm];omega)
theorem Zakg {X:List Line} {P:List ByteArray} {n:Nat} (h:Zml (P.drop n)=none):Zlz X P n= [P]:=by
 unfold Zlz;cases hf:P.length-n with
 |zero=>rfl
 |succ f=>unfold Zjm;rw[h]
theorem Zakh {X:List Line} {P:List ByteArray} {n a:Nat} (h:Zml (P.drop n)=some a):Zlz X P n=(Zdb X (P.take (n+a))).flatMap fun s=>Zlz X (P.set (n+a) s) (n+a+1):=by
 have h2:=Znt h;rw[Yam]at h2;unfold Zlz;obtain⟨f,hf⟩: ∃ f,P.length-n=f+1:=⟨P.length-n-1,by omega⟩
 rw[hf]
 conv=>lhs;unfold Zjm
 rw[h];simp only;congr 1;funext s;exact Ztp X _ _ _ _ (by rw[Ycm];omega) (Yag _)
def cntU (X:List Line) (U:List ByteArray):Nat:=(Zaf X).countP (preB U)
theorem Zasg (U:List ByteArray):preB U U=true:=Zbh.2 ⟨[],by rw[Ybg]⟩
theorem Zaty {U V Q:List ByteArray} (h:preB (U++V) Q=true):preB U Q=true:=by
 obtain⟨s,hs⟩:=Zbh.1 h;exact Zbh.2 ⟨V++s,by rw[hs,Ybm]⟩
theorem Zaxk {X:List Line} {U V:List ByteArray}:cntU X (U++V)≤cntU X U:=List.countP_mono_left fun _ _ h=>Zaty h
theorem Zauv {X:List Line} {U:List ByteArray} (h:U∈Zaf X):0<cntU X U:=List.countP_pos_iff.2 ⟨U,h,Zasg U⟩
theorem Zaxj (X:List Line) (U:List ByteArray):cntU X U≤X.length:=by
 have:=List.countP_le_length (p:=preB U) (l:=Zaf X)
 rwa [Zae]at this
theorem Zaog (U:List ByteArray): ∀ (ws:List ByteArray),ws.Nodup→ ∀ l:List (List ByteArray),(ws.map fun s=>l.countP (preB (U++ [s]))).sum≤l.countP (preB U)
 | [],_,_=>Yao _
 | s::ws,hn,l=>by
   obtain⟨h1,h2⟩:=List.nodup_cons.1 hn;rw[List.map_cons,List.sum_cons];have e1:=List.countP_eq_countP_filter_add l (preB U) (preB (U++ [s]))
   have e2:(l.filter (preB (U++ [s]))).countP (preB U)=l.countP (preB (U++ [s])):=by
    rw[List.countP_filter];refine List.countP_congr fun q _=> ?_
    simp only[Yat];exact⟨fun h=>h.2,fun h=>⟨Zaty h,h⟩⟩
   have ih:=Zaog U ws h2 (l.filter fun q=> !preB (U++ [s]) q)
   have e3:(ws.map fun t=>(l.filter fun q=> !preB (U++ [s]) q).countP (preB (U++ [t])))=ws.map fun t=>l.countP (preB (U++ [t])):=by
    refine List.map_congr_left fun t ht=> ?_
    rw[List.countP_filter];refine List.countP_congr fun q _=> ?_
    simp only[Yat,Yer];refine⟨fun h=>h.1,fun h=>⟨h, ?_⟩⟩
    cases hq:preB (U++ [s]) q with
    |false=>rfl
    | true=>
      obtain⟨a,ha⟩:=Zbh.1 h;obtain⟨b,hb⟩:=Zbh.1 hq;rw[ha,Ybm,Ybm]at hb;have hb2:=List.append_cancel_left hb;injection hb2 with hb3
      exact absurd (hb3▸ht) h1
   rw[e3]at ih;omega
section
variable {X:List Line} (hr:Zab X=true)
include hr
theorem Zaik (U:List ByteArray):(Zdb X U).Nodup∧ ∀ s∈Zdb X U,U++ [s]∈Zaf X:=by
 have key: ∀ K:List Nat,K.Pairwise (· < ·)→(∀ k∈K,k<X.length∧pa X k=U++ [Zbf X k])→(K.map (Zbf X)).Nodup∧ ∀ s∈K.map (Zbf X),U++ [s]∈Zaf X:=fun K hK hp=>by
  refine⟨?_,fun s hs=> ?_⟩
  · unfold List.Nodup;rw[List.pairwise_map];refine hK.imp_of_mem fun {a b} ha hb hab e=> ?_
    have h1:=hp a ha;have h2:=hp b hb;have:=Zael hr h1.1 h2.1 (by rw[h1.2,h2.2,e])
    omega
  · obtain⟨k,hk,rfl⟩:=Yda.1 hs;obtain⟨h1,h2⟩:=hp k hk;rw[←h2,Zfj h1];exact Yau _
 unfold Zdb;cases hf:Zar X U with
 | some i=>
   obtain⟨hi,e⟩:=Zek hr hf;refine key _ (Zri X i) fun k hk=> ?_
   obtain⟨g1,g2,g3⟩:=Zbb.1 hk;have hkl:k<X.length:=by have:=(Zbc X i hi).2;omega
   obtain⟨s,hs⟩:=Zmx.1 ((Zabj hr hi hkl).2 ⟨g2,g1,g3⟩);have h3:=Zex hr hkl;rw[hs,List.getLastD_concat]at h3;exact⟨hkl,by rw[hs,h3,e]⟩
 | none=>
   by_cases h0:U.length=0
   · obtain rfl:U= []:=Yar h0;simp only[Ydx,if_true];refine key _ (Zlh X) fun k hk=> ?_
     obtain⟨g1,-,g3⟩:=Zbb.1 hk;have h2:=Zbt (Zac hr).2.1 g1;have h3:=Zex hr g1;rw[g3]at h2;refine⟨g1, ?_⟩;cases hp:pa X k with
     |nil=>rw[hp]at h2;simp at h2
     | cons a r=>
       rw[hp]at h2 h3;obtain rfl:r= []:=Yar (by simpa using h2)
       rw[←h3];rfl
   · simp only[Yad h0];exact⟨List.nodup_nil,fun s hs=>by cases hs⟩
theorem Zadj: ∀ (f:Nat) (P:List ByteArray) (n:Nat),(Zjm X f P n).length≤max 1 (cntU X (P.take n))
 |0,P,n=>by unfold Zjm;simp;omega
 | f + 1,P,n=>by
   unfold Zjm;cases hs:Zml (P.drop n)with
   |none=>simp;omega
   | some a=>
     have ha:=Znt hs;rw[Yam]at ha;obtain⟨w1,w2⟩:=Zaik hr (P.take (n+a));simp only;rw[List.length_flatMap]
     have h1:((Zdb X (P.take (n+a))).map fun s=>(Zjm X f (P.set (n+a) s) (n+a+1)).length).sum≤((Zdb X (P.take (n+a))).map fun s=>(Zaf X).countP (preB (P.take (n+a)++ [s]))).sum:=by
      have gen: ∀ l:List ByteArray,(∀ s∈l,P.take (n+a)++ [s]∈Zaf X)→(l.map fun s=>(Zjm X f (P.set (n+a) s) (n+a+1)).length).sum≤(l.map fun s=>(Zaf X).countP (preB (P.take (n+a)++ [s]))).sum:=by
       intro l
       induction l with
       |nil=>intro _;exact Yag _
       | cons s l ih=>
         intro hl;rw[List.map_cons,List.sum_cons,List.map_cons,List.sum_cons];have g1:=ih fun t ht=>hl t (Ych _ ht)
         have g2:=Zadj f (P.set (n+a) s) (n+a+1);have g3:(P.set (n+a) s).take (n+a+1)=P.take (n+a)++ [s]:=Go.Proofs.Zq.set_take P (n+a) s (by omega)
         rw[g3]at g2;have g4:=Zauv (hl s (Yck ..));have g5:(Zjm X f (P.set (n+a) s) (n+a+1)).length≤cntU X (P.take (n+a)++ [s]):=by omega
         have g6:cntU X (P.take (n+a)++ [s])=(Zaf X).countP (preB (P.take (n+a)++ [s])):=rfl;omega
      exact gen _ w2
     have h2:=Zaog (P.take (n+a)) _ w1 (Zaf X)
     have h3:(Zaf X).countP (preB (P.take (n+a)))≤cntU X (P.take n):=by
      have e:P.take (n+a)=P.take n++(P.drop n).take a:=by rw[←List.take_add]
      rw[e];exact Zaxk
     omega
theorem Zqz (P:List ByteArray) (n:Nat):(Zlz X P n).length≤200:=by
 have h1:=Zadj hr (P.length-n) P n;have h2:=Zaxj X (P.take n);have h3:=(Zac hr).1;unfold Zlz;omega
end
theorem Zmv (X:List Line): ∀ (f:Nat) (P:List ByteArray) (n:Nat),∀ q∈Zjm X f P n,q.length=P.length
 | 0,P,n,q,h=>by
   unfold Zjm at h;rw[Ybt]at h;rw[h]
 | f +1,P,n,q,h=>by
   unfold Zjm at h;cases hs:Zml (P.drop n)with
   |none=>rw[hs]at h;simp only at h;rw[Ybt]at h;rw[h]
   | some a=>
     rw[hs]at h;obtain⟨s,-,hq⟩:=Ydf.1 h;rw[Zmv X f _ _ q hq,Ycm]
end Edt
