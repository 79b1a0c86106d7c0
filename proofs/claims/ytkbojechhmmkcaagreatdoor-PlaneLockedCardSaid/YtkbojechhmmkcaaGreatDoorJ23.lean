import Derived.Test.YtkbojechhmmkcaaGreatDoorJ22
set_option linter.unusedVariables false
set_option linter.unusedSimpArgs false
set_option maxHeartbeats 2000000
set_option maxRecDepth 100000
namespace Go.Proofs.Zq
open Tryz
open Go Go.RowKit Go.Sort Tre Lx Prs Lns Edt
def PT (l:List (Value×List Line)) (k:Nat):List (List ByteArray):=(l.take k).flatMap fun t=>Zaf t.2
theorem Zauf {l:List (Value×List Line)} {k:Nat} (h:k<l.length):PT l (k+1)=PT l k++Zaf l[k].2:=by
 unfold PT;rw[Yaw h,Ycg];simp
theorem Zaoh {L:List Line} (hr:Zab L=true) {i:Nat} (hi:i<L.length):(Zaf L).take (i+1)=(Zaf L).take i++ [Zen L i]:=by
 rw[Zot (Zac hr).2.1 hi,Zfj hi,Yaw (by rw[Zae];exact hi)]
theorem pathB_lenR {L:List Line} (hr:Zab L=true) {i:Nat} (hi:i<L.length):(Zen L i).length≤16:=by
 rw[Zot (Zac hr).2.1 hi];have h3:=Zbt (Zac hr).2.1 hi;have h4:=Zby (Zac hr).2.1 hi;omega
theorem Zaxm: ∀ {L:List PV},L.length=1→dd L=L
 | [x],_=>rfl
 | [],h=>by simp at h
 |_::_::_,h=>by simp at h
theorem Zahm (v1 v2 v3:Value) (B M T:List Line) (w:World) (h1:Lr w v1 B) (h2:Lr w v2 M) (h3:Lr w v3 T) (hr1:Zab B=true) (hr2:Zab M=true) (hr3:Zab T=true):
 Calls prog 50 #[.agg #[v1,v2,v3]] w fun e w'=>(∃ v Q,e= .returned v∧PRow w' w.heap.size v Q∧Q.map Prod.snd=uniS (Zaf B++Zaf M++Zaf T))∧Below w.heap.size w w':=by
 obtain⟨i0,hi,hz0,hz1,hz2⟩:=info_parts Zhs;obtain⟨a1,d1,e1,-⟩:=id h1;obtain⟨a2,d2,e2,-⟩:=id h2;obtain⟨a3,d3,e3,-⟩:=id h3;subst e1;subst e2;subst e3;generalize B.length=n1 at *;generalize M.length=n2 at *;generalize T.length=n3 at *;obtain⟨l,hl⟩: ∃ l:List (Value×List Line),l= [((.slice a1 n1 d1),B),((.slice a2 n2 d2),M),((.slice a3 n3 d3),T)]:=⟨_,rfl⟩
 have HT:Hid (∀ k (hk:k<3),∃ v L,Lr w v L∧Zab L=true∧PT l (k+1)=PT l k++Zaf L∧(#[(.slice a1 n1 d1),(.slice a2 n2 d2),(.slice a3 n3 d3)]:Array Value)[k]?=some v):=fun k hk=>by
  have hll:k<l.length:=by rw[hl];exact hk
  have:=Zauf hll
  match k,hk with
  |0,_=>exact⟨_,B,h1,hr1,by rw[this];simp[hl],rfl⟩
  |1,_=>exact⟨_,M,h2,hr2,by rw[this];simp[hl],rfl⟩
  |2,_=>exact⟨_,T,h3,hr3,by rw[this];simp[hl],rfl⟩
 have HF:Hid (PT l 3=Zaf B++Zaf M++Zaf T):=by show _=_;rw[hl];simp[PT]
 have HA:=Zhd ((Yae w.heap.size w).alloc (Yag _) (.cells #[(.slice a1 n1 d1),(.slice a2 n2 d2),(.slice a3 n3 d3)] 96));have HA2:=Zhd (HA.out.alloc (by simp) (.cells #[(.slice a1 n1 d1),(.slice a2 n2 d2),(.slice a3 n3 d3)] 26))
 have hq0:(w.alloc (.cells #[(.slice a1 n1 d1),(.slice a2 n2 d2),(.slice a3 n3 d3)] 96)).heap.size=w.heap.size+1:=by simp
 have HRow:Hid (((w.alloc (.cells #[(.slice a1 n1 d1),(.slice a2 n2 d2),(.slice a3 n3 d3)] 96)).alloc (.cells #[(.slice a1 n1 d1),(.slice a2 n2 d2),(.slice a3 n3 d3)] 26)).heap[w.heap.size+1]?=some (.cells #[(.slice a1 n1 d1),(.slice a2 n2 d2),(.slice a3 n3 d3)] 26 (0,0))):=by
  show _=_;rw[←hq0];exact heap_alloc_new _ _
 clear h1 h2 h3 hr1 hr2 hr3 hl hq0;go_enter func50,ntmps50;go_wp2;go_loopw [3,17] (fun v vk wr=> ∃ (k:Nat) (Q:List PV),k≤3∧vk= .int .i64 k∧Q.length≤200*k∧Hid (PRow wr w.heap.size v Q)∧Hid (Q.map Prod.snd=PT l k)∧Hid (∀ x∈Q,x.2.length≤16)∧Hid (wr.heap[w.heap.size+1]?=some (.cells #[(.slice a1 n1 d1),(.slice a2 n2 d2),(.slice a3 n3 d3)] 26 (0,0)))∧Hid (Below w.heap.size w wr)) (fun _ vk _=>3-(intOf vk).toNat)
 case atStart=>exact⟨0,[],Yao _,rfl,by simp,Zash _ _,rfl,(show ∀ x∈([]:List PV),x.2.length≤16 by simp),HRow.out,HA2.out⟩
 case round=>
  clear HRow HA HA2;obtain⟨k,Q,hk,rfl,hQl,HQ,HM,HS,HRow,HB⟩:=hrel;by_cases hlt:k<3
  · obtain⟨vt,L,hLr,hLR,hPT,hrow⟩:=HT.out k hlt;have x0:wr.cell? ⟨w.heap.size+1,k,none⟩=some vt:=by
     rw[cell_of_row wr _ k _ _ (0,0) HRow.out];exact hrow
    obtain⟨A,c,rfl,hc1,hc2,hR,hnil⟩:=hLr;have hkI:(k:Int)<3:=by omega
    have hL200:=Zas hLR;have HPa:=Zhd (fun(i:Nat) (hi:i<L.length) (W:World) (hb:Below w.heap.size w W)=>Zqa A c L i W (hR.below hb) hc1 hc2 hLR hi)
    unfold Znw at HPa;have HPT:=Zhd hPT;have HLR:=Zhd hLR;clear hPT hrow hR hnil hLR;go_wp2;go_loopw [3,23] (fun v vi wr=> ∃ (i:Nat) (Q:List PV),i≤L.length∧vi= .int .i64 i∧Q.length≤200*k+i∧Hid (PRow wr w.heap.size v Q)∧Hid (Q.map Prod.snd=PT l k++(Zaf L).take i)∧Hid (∀ x∈Q,x.2.length≤16)∧Hid (wr.heap[w.heap.size+1]?=some (.cells #[(.slice a1 n1 d1),(.slice a2 n2 d2),(.slice a3 n3 d3)] 26 (0,0)))∧Hid (Below w.heap.size w wr)) (fun _ vi _=>L.length-(intOf vi).toNat)
    case atStart=>exact⟨0,Q,Yao _,rfl,hQl,HQ,by show _=_;rw[HM.out];simp,HS,HRow,HB⟩
    case round=>
     clear HQ HM HS HRow HB hQl x0;obtain⟨i,Q,hi',rfl,hQl,HQ,HM,HS,HRow,HB⟩:=hrel;by_cases hlt2:i<L.length
     · have HP:=Zhd (HPa.out i hlt2 wr HB.out)
       have HM2:Hid (∀ v:Value,(Q++ [(v,Zen L i)]).map Prod.snd=PT l k++(Zaf L).take (i+1)):=fun v=>by
        rw[Ybu,HM.out,Zaoh HLR.out hlt2,Ybm];rfl
       have hpl:=pathB_lenR HLR.out hlt2;generalize Zen L i=pp at *;clear HM;go_wp2_with fail;refine HP.out.mono ?_;rintro e w3 ⟨v7,rfl,ho7,hb7⟩;obtain⟨A7,c7,e7,-⟩:=Zbe ho7;subst e7;have HO7:Hid (POwn w3 (.slice A7 pp.length c7,pp)):=World.ownsRow.mono ho7 (Yao _);have HQ3:=Zhd (HQ.out.below hb7);have HB3:=Zhd (Zaa HB.out hb7);have HRow3:=Zhd ((hb7.block _ (Ybc.1 HRow.out).1).trans HRow.out);clear ho7 hb7 HP HQ HB HRow;go_wp2_with (at_builtin;refine Zmp rfl _ _ 71 rfl w w3 34 i0 _ 1 24 underlying71 hi hz0 hz1 hz2 rfl (by decide) (by decide) HQ3.out.1 HB3.out rfl 1 1 [.slice A7 pp.length c7] rfl rfl (by intro u hu;rw[Ybt]at hu;rw[hu];exact HO7.out.cell) (by omega) ?_;intro v8 w8 hown8 hb8 hk8)
       have HQ8:Hid (PRow w8 w.heap.size v8 (Q++ [(.slice A7 pp.length c7,pp)])):=Zamx hown8 HQ3.out.2 HO7.out hk8;have HB8:=Zhd hb8;have HRow8:=Zhd (hk8 _ _ _ (by decide) HRow3.out)
       have HS8:Hid (∀ x∈Q++ [(.slice A7 pp.length c7,pp)],x.2.length≤16):=fun x hx=>by
        rcases Ybl.1 hx with hx|hx
        · exact HS.out x hx
        · rw[Ybt]at hx;rw[hx];exact hpl
       clear hown8 hb8 hk8 HQ3 HB3 HRow3;go_wp2_with fail;go_roundw
       case rel=>exact⟨i+1,Q++ [(.slice A7 pp.length c7,pp)],by omega,by go_num,by rw[Yak,Ybv];omega,HQ8,HM2.out _,HS8,HRow8,HB8⟩
       case measure=>simp[intOf];omega
     · have hie:i=L.length:=by omega
       have HM2:Hid (Q.map Prod.snd=PT l (k+1)):=by
        show _=_;rw[HM.out,HPT.out,Ybk (by rw[Zae];omega)]
       clear HM;go_wp2;go_roundw
       case rel=>exact⟨k+1,Q,by omega,by go_num,by omega,HQ,HM2,HS,HRow,HB⟩
       case measure=>simp[intOf];omega
  · have hke:k=3:=by omega
    subst hke;have HM2:Hid (Q.map Prod.snd=Zaf B++Zaf M++Zaf T):=by show _=_;rw[HM.out,HF.out]
    clear HM HT HF HRow;by_cases h0:Q.length=0
    · have hQ0:Q= []:=Yar h0;subst hQ0;obtain⟨A,c,rfl,-,-,-⟩:=Zbe HQ.out.1;have HSn:=Zhd (AnyF.slices_SortFunc_none Tryz.sortP06 A c (.func (.func 82) #[] #[]) wr);have HCn:=Zhd (Zqs A 0 c (.func (.func 85) #[] #[]) wr (by omega))
      have HE:Hid ([]=uniS (Zaf B++Zaf M++Zaf T)):=by show _=_;rw[←HM2.out];rfl
      clear HM2;go_wp2_with fail;refine HSn.out.mono ?_;rintro e w3 ⟨rfl,rfl⟩;go_wp2_with fail;refine HCn.out.mono ?_;rintro e w4 ⟨rfl,rfl⟩;go_wp2;go_ret;exact⟨⟨_,[],rfl,HQ.out,HE.out⟩,HB.out⟩
    · have HU:Hid (∀ Q':List PV,Q'.Perm Q→Q'.Pairwise (fun a b=>cmpL a.2 b.2≤0)→(dd Q').map Prod.snd=uniS (Zaf B++Zaf M++Zaf T)):=fun Q' hp hs=>by
       obtain⟨g1,g2⟩:=Zaxn hs;refine Zawx g1 fun x=> ?_
       rw[g2,←HM2.out];exact(hp.map Prod.snd).mem_iff
      obtain⟨m,hm⟩: ∃ m,Q.length=m+1:=⟨Q.length-1,by omega⟩
      have ho':=HQ.out.1;rw[hm]at ho';obtain⟨q,c,e1⟩:=Zck ho';rw[←hm]at e1;subst e1;have hqc:Q.length≤c∧c≤maxLen:=by
       obtain⟨A4,c4,e4,g1,g2,-⟩:=Zbe HQ.out.1;injection e4 with _ _ e3
       subst e3;exact⟨g1,g2⟩
      have HSo:=Zhd (Zanx Q w.heap.size q c wr (by omega) (by omega) (fun x hx=>Yas (HS.out x hx) (by omega)) HB.out.size HQ.out)
      have HS2:Hid (∀ Q':List PV,Q'.Perm Q→Q'.length=Q.length∧ ∀ x∈Q',x.2.length≤1000000):=fun Q' hp=>⟨hp.length_eq,fun x hx=>Yas (HS.out x (hp.mem_iff.1 hx)) (by omega)⟩
      clear HM2 ho' hm HQ HS;go_wp2_with fail;refine HSo.out.mono ?_;rintro e w3 ⟨rfl,Q',hp,hs,hO,hb3⟩;have hl':=(HS2.out Q' hp).1;have HU2:=Zhd (HU.out Q' hp hs);have HB3:=Zhd (HB.out.trans hb3);have HO3:=Zhd hO;have HQl:=Zhd (HS2.out Q' hp).2;clear hb3 hO HSo HB HU hs HS2;have hp2:=Zhd hp;have HL':=Zhd hl';clear hp hl';by_cases h1:Q.length=1
      · have HD1:Hid (dd Q'=Q'):=by
         exact Zaxm (HL'.out.trans h1)
        have HCn:=Zhd (Zqs (some ⟨q,0,none⟩) Q.length c (.func (.func 85) #[] #[]) w3 (by omega))
        clear h1;go_wp2_with fail;refine HCn.out.mono ?_;rintro e w4 ⟨rfl,rfl⟩;go_wp2;go_ret;exact⟨⟨_,Q',rfl,by rw[←HL'.out];exact HO3.out,by rw[←HU2.out,HD1.out]⟩,HB3.out⟩
      · have hl':=HL'.out;have HC:=Zhd (Zaai Q' w.heap.size q c w3 (by omega) (by omega) HQl.out (by omega) hqc.2 HB3.out.size HO3.out)
        rw[hl']at HC;clear hl';go_wp2_with fail;refine HC.out.mono ?_;rintro e w4 ⟨rfl,hO4,hb4⟩;have HB4:=Zhd (HB3.out.trans hb4);have HO4:=Zhd hO4;clear hO4 hb4;go_wp2;go_ret;exact⟨⟨_,dd Q',rfl,HO4.out,HU2.out⟩,HB4.out⟩
end Go.Proofs.Zq
namespace Edt
open Go Go.Lib Tre Sch Lns
def allP (B M T:List Line):List (List ByteArray):=uniS (Zaf B++Zaf M++Zaf T)
def Zta (B M T:List Line) (p:List ByteArray):Bool:= !conB B M T p&&decide (decB B M T p≠ -1)
def badL (B M T:List Line):List (List ByteArray):=(allP B M T).filter (conB B M T)
def Zpn (B M T:List Line):List (List ByteArray):=(allP B M T).filter (Zta B M T)
def Zcg (B M T:List Line):List Line×Nat×Int:=
 if 0<(badL B M T).length then([],(badL B M T).length,8)else if 200<(Zpn B M T).length then([],0,5)else(ofS (Zpn B M T) (decB B M T),0,0)
theorem Zadw (p:List ByteArray): ∀ l,(insP p l).length≤l.length+1
 | []=>Yag _
 | q ::r=>by
   unfold insP;have:=Zadw p r;split
   · simp
   · split
     · simp
     · simp;omega
theorem Zafi: ∀ l,(uniS l).length≤l.length
 | []=>Yag _
 | q::r=>by
   have h1:=Zadw q (uniS r);have h2:=Zafi r;show(insP q (uniS r)).length≤_;simp;omega
theorem Zky {B M T:List Line} {p:List ByteArray}:p∈allP B M T↔p∈Zaf B∨p∈Zaf M∨p∈Zaf T:=by
 unfold allP;rw[Zwg,Ybl,Ybl];constructor
 · rintro((h|h)|h)
   · exact .inl h
   · exact .inr (.inl h)
   · exact .inr (.inr h)
 · rintro(h|h|h)
   · exact .inl (.inl h)
   · exact .inl (.inr h)
   · exact .inr h
section
variable {B M T:List Line} (h1:Zab B=true) (h2:Zab M=true) (h3:Zab T=true)
include h1 h2 h3
theorem Zmn {p:List ByteArray} (h:p∈allP B M T):okP p:=by
 rcases Zky.1 h with h|h|h
 · exact Zib h1 h
 · exact Zib h2 h
 · exact Zib h3 h
theorem Zaum {p:List ByteArray} (h:p∈allP B M T):p.dropLast= []∨p.dropLast∈allP B M T:=by
 have key: ∀ {X:List Line},Zab X=true→p∈Zaf X→p.dropLast= []∨p.dropLast∈Zaf X:=fun hr hp=>((Zcx hr).1.2 p hp).2.symm
 rcases Zky.1 h with h|h|h
 · exact(key h1 h).imp id fun x=>Zky.2 (.inl x)
 · exact(key h2 h).imp id fun x=>Zky.2 (.inr (.inl x))
 · exact(key h3 h).imp id fun x=>Zky.2 (.inr (.inr x))
theorem Zajw (p:List ByteArray):decB B M T p= -2∨(-1≤decB B M T p∧decB B M T p≤3):=by
 have g1:=Zaic h1 p;have g2:=Zaic h2 p;have g3:=Zaic h3 p;unfold decB decI;split
 · exact .inr g2
 · split
   · exact .inr g3
   · exact .inl rfl
theorem Zrp (h:(Zcg B M T).2.2=0):Zab (Zcg B M T).1=true∧Zaf (Zcg B M T).1=Zpn B M T∧(∀ q∈Zpn B M T,stB (Zcg B M T).1 q=decB B M T q)∧(∀ q,¬ q∈Zpn B M T→stB (Zcg B M T).1 q= -1)∧badL B M T= []:=by
 unfold Zcg at h⊢;by_cases hb:0<(badL B M T).length
 · rw[Yan hb]at h;exact absurd (show(8:Int)=0 from h) (by decide)
 · rw [Yad hb]at h⊢;by_cases hl:200<(Zpn B M T).length
   · rw[Yan hl]at h;exact absurd (show(5:Int)=0 from h) (by decide)
   · rw [Yad hl];have hb0:badL B M T= []:=Yar (by omega)
     have hcon: ∀ p∈allP B M T,conB B M T p=false:=fun p hp=>by
      cases hc:conB B M T p with
      |false=>rfl
      | true=>
        have:p∈badL B M T:=Ydg.2 ⟨hp,hc⟩;rw[hb0]at this;cases this
     have hgood: ∀ p,p∈Zpn B M T↔p∈allP B M T∧decB B M T p≠ -1:=fun p=>by
      unfold Zpn Zta;rw[Ydg];constructor
      · rintro⟨a,b⟩;simp only[Yat,Yap]at b;exact⟨a,b.2⟩
      · rintro⟨a,b⟩;exact⟨a,by rw[hcon p a,Yal b];rfl⟩
     have ht:Zzo (Zpn B M T):=by
      refine⟨(Zqd _).filter _,fun q hq=> ?_⟩
      obtain⟨a,b⟩:=(hgood q).1 hq;have hok:=Zmn h1 h2 h3 a;refine⟨hok.1, ?_⟩;rcases Zaum h1 h2 h3 a with hu|hu
      · exact .inr hu
      · refine .inl ((hgood _).2 ⟨hu,fun hd=> ?_⟩)
        have hc:=hcon q a;unfold conB at hc;simp only[Yev,Bool.and_eq_false_iff,decide_eq_false_iff_not]at hc;rcases hc.2 with(h5|h5)|h5
        · exact h5 b
        · have hdl:q.dropLast.length=q.length-1:=Yci;have:q.dropLast= []:=Yar (by omega)
          exact(Zmn h1 h2 h3 hu).1 this
        · exact h5 hd
     obtain⟨g1,g2,g3,g4⟩:=Znf (S:=Zpn B M T) (st:=decB B M T) ht (by omega) (fun q hq=>by
      obtain⟨a,b⟩:=(hgood q).1 hq;have hc:=hcon q a;unfold conB at hc;simp only[Yev,decide_eq_false_iff_not]at hc;have:=Zajw h1 h2 h3 q;exact⟨Zmn h1 h2 h3 a,by omega,by omega⟩)
     exact⟨g1,g2,g3,g4,hb0⟩
end
theorem Zaaw {B M T:List Line} {l:List (List ByteArray)} {k:Nat} (h:k<l.length):((l.take (k+1)).filter (Zta B M T))=(l.take k).filter (Zta B M T)++if Zta B M T l[k]then [l[k]]else []:=by
 rw[Yaw h,Yco];rw[List.filter_cons,List.filter_nil]
theorem Zafq {B M T:List Line} {l:List (List ByteArray)} {k:Nat} (h:k<l.length):((l.take (k+1)).filter (conB B M T))=(l.take k).filter (conB B M T)++if conB B M T l[k]then [l[k]]else []:=by
 rw[Yaw h,Yco];rw[List.filter_cons,List.filter_nil]
end Edt
namespace Go.Proofs.Zq
open Tryz
open Go Go.RowKit Go.Sort Tre Lx Prs Lns Edt
theorem Zng {w:World} {base:Nat} {v:Value} {L:List Line} {l:Line} (h:w.ownsRow base 62 3 v (L.length+1) (lines L++l.cells)):w.ownsRow base 62 3 v (L++ [l]).length (lines (L++ [l])):=by
 rw[Zba,Zna,Yak,Ybv];exact h
theorem Zars (S:List (List ByteArray)) (st:List ByteArray→Int) (q:List ByteArray):ofS (S++ [q]) st=ofS S st++ [Zht st q]:=by
 unfold ofS;rw[Ybu];rfl
theorem Zcu (w:World):Lr w (.slice none 0 0) []:=⟨none,0,rfl,Yag _,by unfold maxLen;omega,Rd.nil,fun _=>rfl⟩
def Zatm (z:List Line×Nat×Int) (w:World) (e:Ending) (w':World):Prop:=
 (∃ v A c,e= .returned (.tuple #[v, .slice A z.2.1 c, .int .i64 z.2.2])∧Lr w' v z.1)∧Below w.heap.size w w'
theorem Zabo (v1 v2 v3:Value) (B M T:List Line) (w:World) (h1:Lr w v1 B) (h2:Lr w v2 M) (h3:Lr w v3 T) (hr1:Zab B=true) (hr2:Zab M=true) (hr3:Zab T=true):
 Calls prog 31 #[v1,v2,v3] w (Zatm (Zcg B M T) w):=by
 obtain⟨i0,hi,hz0,hz1,hz2⟩:=info_parts Zhs;obtain⟨j0,hj,hy0,hy1,hy2⟩:=info_parts Zhg
 have hR1:Hid (Calls prog 44 #[v1] w fun e w'=>e= .returned (.bool true)∧Below w.heap.size w w'):=by
  obtain⟨A,c,rfl,g1,g2,g3,-⟩:=h1;have:=Zbg A c B w g3 g1 g2
  rwa [hr1]at this
 have hR2:Hid (∀ W,Below w.heap.size w W→Calls prog 44 #[v2] W fun e w'=>e= .returned (.bool true)∧Below W.heap.size W w'):=fun W hb=>by
  obtain⟨A,c,rfl,g1,g2,g3,-⟩:=h2.below hb;have:=Zbg A c M W g3 g1 g2
  rwa [hr2]at this
 have hR3:Hid (∀ W,Below w.heap.size w W→Calls prog 44 #[v3] W fun e w'=>e= .returned (.bool true)∧Below W.heap.size W w'):=fun W hb=>by
  obtain⟨A,c,rfl,g1,g2,g3,-⟩:=h3.below hb;have:=Zbg A c T W g3 g1 g2
  rwa [hr3]at this
 have HP:=Zhd (fun(W:World) (hb:Below w.heap.size w W)=>Zahm v1 v2 v3 B M T W (h1.below hb) (h2.below hb) (h3.below hb) hr1 hr2 hr3)
 have HC:=Zhd (fun(W:World) (hb:Below w.heap.size w W) (p:Value) (P:List ByteArray) (hp:Pr W p P) (hl:P.length≤1000000)=>Zux v1 v2 v3 p B M T P W (h1.below hb) (h2.below hb) (h3.below hb) hr1 hr2 hr3 hp hl)
 have HD:=Zhd (fun(W:World) (hb:Below w.heap.size w W) (p:Value) (P:List ByteArray) (hp:Pr W p P)=>Zlx v1 v2 v3 p B M T P W (h1.below hb) (h2.below hb) (h3.below hb) hr1 hr2 hr3 hp)
 have HG:=Zhd (fun p (hp:p∈allP B M T)=>Zmn hr1 hr2 hr3 hp)
 have hlen:(allP B M T).length≤600:=by
  have g1:=Zas hr1;have g2:=Zas hr2;have g3:=Zas hr3;have:=Zafi (Zaf B++Zaf M++Zaf T);rw[Yak,Yak,Zae,Zae,Zae]at this;unfold allP;omega
 obtain⟨a1,d1,e1,-⟩:=id h1;obtain⟨a2,d2,e2,-⟩:=id h2;obtain⟨a3,d3,e3,-⟩:=id h3;subst e1;subst e2;subst e3;have hU:uniS (Zaf B++Zaf M++Zaf T)=allP B M T:=rfl;rw[hU]at HP;obtain⟨z,hz⟩: ∃ z,Zcg B M T=z:=⟨_,rfl⟩;have HZ:Hid (z=if 0<((allP B M T).filter (conB B M T)).length then([],((allP B M T).filter (conB B M T)).length,8)else if 200<((allP B M T).filter (Zta B M T)).length then([],0,5)else(ofS ((allP B M T).filter (Zta B M T)) (decB B M T),0,0)):=hz.symm
 have HGs:=Zhd (fun(k:Nat) (h:k<(allP B M T).length)=>Zaaw (B:=B) (M:=M) (T:=T) h)
 have HBs:=Zhd (fun(k:Nat) (h:k<(allP B M T).length)=>Zafq (B:=B) (M:=M) (T:=T) h)
 have hgd: ∀ p,Zta B M T p=(!conB B M T p&&decide (decB B M T p≠ -1)):=fun _=>rfl
 rw[hz];clear hz h1 h2 h3 hr1 hr2 hr3 hU;generalize allP B M T=Y at *;generalize conB B M T=fc at *;generalize Zta B M T=fg at *;generalize decB B M T=fd at *;generalize B.length=n1 at *;generalize M.length=n2 at *;generalize T.length=n3 at *;have HGd:=Zhd hgd;clear hgd;go_enter func31,ntmps31;go_wp2_with fail;refine hR1.out.mono ?_;rintro e w1 ⟨rfl,hb1⟩;have HB1:=Zhd hb1;have HR2:=Zhd (hR2.out w1 HB1.out);clear hb1 hR1 hR2;go_wp2_with fail;refine HR2.out.mono ?_;rintro e w2 ⟨rfl,hb2⟩;have HB2:=Zhd (Zaa HB1.out hb2);have HR3:=Zhd (hR3.out w2 HB2.out);clear hb2 HR2 hR3 HB1;go_wp2_with fail;refine HR3.out.mono ?_;rintro e w3 ⟨rfl,hb3⟩;have HB3:=Zhd (Zaa HB2.out hb3);clear hb3 HR3 HB2;go_wp2_with fail;have HB3a:=Zhd (HB3.out.alloc HB3.out.size (.cells #[.slice a1 n1 d1, .slice a2 n2 d2, .slice a3 n3 d3] 96));have HP3:=Zhd (HP.out _ HB3a.out);have hstr: ∀ j,(w3.alloc (.cells #[.slice a1 n1 d1, .slice a2 n2 d2, .slice a3 n3 d3] 96)).cell? ⟨w3.heap.size,j,none⟩=(#[.slice a1 n1 d1, .slice a2 n2 d2, .slice a3 n3 d3]:Array Value)[j]?:=fun j=>World.cell?_alloc_at _ _ _ _ rfl
 have hs3:w3.heap.size<(w3.alloc (.cells #[.slice a1 n1 d1, .slice a2 n2 d2, .slice a3 n3 d3] 96)).heap.size:=by simp
 clear HP;refine HP3.out.mono ?_;rintro e w4 ⟨⟨v,Q,rfl,hO,hQ⟩,hb4⟩;have HB4:=Zhd (Zaa HB3a.out hb4)
 have HStr:Hid (∀ W,Below w4.heap.size w4 W→W.cell? ⟨w3.heap.size,0,none⟩=some (.slice a1 n1 d1)∧W.cell? ⟨w3.heap.size,1,none⟩=some (.slice a2 n2 d2)∧W.cell? ⟨w3.heap.size,2,none⟩=some (.slice a3 n3 d3)):=fun W hb=>by
  have hb':=hb4.trans (hb.mono hb4.size);exact⟨(hb'.cell (p:=⟨w3.heap.size,0,none⟩) hs3).trans (hstr 0),(hb'.cell (p:=⟨w3.heap.size,1,none⟩) hs3).trans (hstr 1),(hb'.cell (p:=⟨w3.heap.size,2,none⟩) hs3).trans (hstr 2)⟩
 obtain⟨A,c,e1,g1,g2,-⟩:=Zbe hO.1;subst e1;have hYl:Y.length=Q.length:=by rw[←hQ,Yaz]
 have hQY: ∀ (k:Nat) (h:k<Q.length),Y[k]'(by omega)=Q[k].2:=fun k h=>by
  have:Y[k]'(by omega)=(Q.map Prod.snd)[k]'(by rw[Yaz];exact h):=by congr 1;exact hQ.symm
  rw[this,Ydj]
 have HQY:=Zhd hQY;have HO:=Zhd hO;have hQl:Q.length≤600:=by omega
 have HGQ:Hid (∀ (k:Nat) (h:k<Q.length),okP Q[k].2):=fun k h=>HG.out _ (by rw[←hQY k h];exact Yau _)
 have HGs2:Hid (∀ (k:Nat) (h:k<Q.length),(Y.take (k+1)).filter fg=(Y.take k).filter fg++if fg Q[k].2 then [Q[k].2]else []):=fun k h=>by rw[HGs.out k (by omega),hQY k h]
 have HBs2:Hid (∀ (k:Nat) (h:k<Q.length),(Y.take (k+1)).filter fc=(Y.take k).filter fc++if fc Q[k].2 then [Q[k].2]else []):=fun k h=>by rw[HBs.out k (by omega),hQY k h]
 have HYl:=Zhd hYl;clear hstr hs3 hO hb4 HP3 HB3a HG HGs HBs hQY hQ hYl HQY hlen g1 g2;go_wp2;go_loopw [10,11,35] (fun vo vb vk wr=> ∃ (k:Nat) (bs:List Value),k≤Q.length∧vk= .int .i64 k∧Hid (bs.length=((Y.take k).filter fc).length)∧Hid (wr.ownsRow w4.heap.size 62 3 vo (ofS ((Y.take k).filter fg) fd).length (lines (ofS ((Y.take k).filter fg) fd)))∧Hid (wr.ownsRow w4.heap.size 34 1 vb bs.length bs)∧bs.length≤k∧Hid (Below w4.heap.size w4 wr)) (fun _ _ vk _=>Q.length-(intOf vk).toNat)
 case atStart=>exact⟨0,[],Yao _,rfl,rfl,World.ownsRow_nil _ _ _ _,World.ownsRow_nil _ _ _ _,Yag _,Yae _ _⟩
 case round=>
  obtain⟨k,bs,hk,rfl,HLn,HOu,HBd,hbk,HB⟩:=hrel;by_cases hlt:k<Q.length
  · obtain⟨m0,hm0⟩: ∃ m,Q.length=m+1:=⟨Q.length-1,by omega⟩
    have ho':=HO.out.1;rw[hm0]at ho';obtain⟨g,c',e1⟩:=Zck ho';obtain⟨rfl,rfl⟩:A=some ⟨g,0,none⟩∧c=c':=by
     injection e1 with e2 _ e3
     exact⟨e2,e3⟩
    clear ho' e1 hm0;have hgl:=(HO.out.1.lt g rfl).2;have x0:wr.cell? ⟨g,k,none⟩=some Q[k].1:=by
     rw[(HB.out.cell (p:=⟨g,k,none⟩) hgl),HO.out.1.cellAt k (by omega),Ycy,Yaj hlt];rfl
    have hpr:Hid (∀ W,Below w4.heap.size w4 W→Pr W Q[k].1 Q[k].2):=fun W hb=>((HO.out.2 _ (Yau hlt)).below hb).pr
    have hgs:=HGs2.out k hlt;have hbs:=HBs2.out k hlt;have hok:=HGQ.out k hlt;have hkI:(k:Int)<(Q.length:Int):=by omega
    have hxc:=HStr.out wr HB.out;have x1:=hxc.1;have x2:=hxc.2.1;have x3:=hxc.2.2;rw[HGd.out]at hgs;generalize Q[k].2=P at *;generalize Q[k].1=pv at *;obtain⟨Ak,ck,rfl,hck,hck2,hRk⟩:=hpr.out wr HB.out;have HC1:=Zhd (HC.out wr (Zaa HB4.out HB.out) _ P (hpr.out wr HB.out) (Yas hok.2.1 (by omega)))
    have HD1:=Zhd (fun(W:World) (hb:Below w4.heap.size w4 W)=>HD.out W (Zaa HB4.out hb) _ P (hpr.out W hb))
    have HRk:=Zhd hRk;clear hpr hRk hxc;cases hfc:fc P with
    | true=>
      rw[hfc]at HC1 hgs hbs;have HG2:Hid ((Y.take (k+1)).filter fg=(Y.take k).filter fg):=by show _=_;rw[hgs];simp
      have HB2:Hid ((bs++ [Value.slice Ak P.length ck]).length=((Y.take (k+1)).filter fc).length):=by
       show _=_;rw[hbs,Yak,Yak,HLn.out];rfl
      clear hgs hbs hfc HLn;go_wp2_with fail;refine HC1.out.mono ?_;rintro e w5 ⟨rfl,hb5⟩;have HB5:=Zhd (Zaa HB.out hb5);have HO5:=Zhd (Zah HOu.out hb5);have HD5:=Zhd (Zah HBd.out hb5);clear hb5 HB HOu HBd HC1 HD1;go_wp2_with (at_builtin;refine Zmp rfl _ _ 71 rfl w4 w5 34 i0 _ 1 24 underlying71 hi hz0 hz1 hz2 rfl (by decide) (by decide) HD5.out HB5.out rfl 1 1 [.slice Ak P.length ck] rfl rfl (by intro u hu;rw[Ybt]at hu;rw[hu];rfl) (by omega) ?_;intro v6 w6 hown6 hb6 hk6)
      have HD6:Hid (w6.ownsRow w4.heap.size 34 1 v6 (bs++ [Value.slice Ak P.length ck]).length (bs++ [Value.slice Ak P.length ck])):=by show World.ownsRow _ _ _ _ _ _ _;rw[Yak];exact hown6
      have ho6:=hk6.own (show(62:TypeId)≠34 by decide) HO5.out
      rw[←HG2.out]at ho6;have HO6:=Zhd ho6;clear ho6;have HB6:=Zhd hb6;clear hown6 hb6 hk6 HO5 HD5 HB5;go_wp2_with fail;go_roundw
      case rel=>exact⟨k+1,_,by omega,by go_num,HB2,HO6,HD6,by rw[Yak,Ybv];omega,HB6⟩
      case measure=>simp[intOf];omega
    | false=>
      rw[hfc]at HC1 hgs hbs;have HB2:Hid (bs.length=((Y.take (k+1)).filter fc).length):=by show _=_;rw[hbs];simp[HLn.out]
      clear hbs hfc HLn;go_wp2_with fail;refine HC1.out.mono ?_;rintro e w5 ⟨rfl,hb5⟩;have HB5:=Zhd (Zaa HB.out hb5);have HO5:=Zhd (Zah HOu.out hb5);have HD5:=Zhd (Zah HBd.out hb5);have hxc:=HStr.out w5 HB5.out;have x1:=hxc.1;have x2:=hxc.2.1;have x3:=hxc.2.2;have HDc:=Zhd (HD1.out w5 HB5.out);have HR5:=Zhd (HRk.out.below hb5);clear hb5 HB HOu HBd HC1 HD1 HRk hxc;obtain⟨d,hd⟩: ∃ d,fd P=d:=⟨_,rfl⟩;rw[hd]at HDc hgs;by_cases hd1:d= -1
      · have HG2:Hid ((Y.take (k+1)).filter fg=(Y.take k).filter fg):=by show _=_;rw[hgs,Yah (fun h=>h hd1)];simp
        have qd:(d != -1)=false:=by rw[hd1];rfl
        have ho5:=HO5.out;rw[←HG2.out]at ho5;have HO6:=Zhd ho5;clear hgs hd hd1 ho5 HO5;go_wp2_with fail;refine HDc.out.mono ?_;rintro e w6 ⟨rfl,hb6⟩;have HB6:=Zhd (Zaa HB5.out hb6);have HO7:=Zhd (Zah HO6.out hb6);have HD7:=Zhd (Zah HD5.out hb6);clear hb6 HO6 HD5 HB5 HDc;go_wp2;go_roundw
        case rel=>exact⟨k+1,bs,by omega,by go_num,HB2,HO7,HD7,by omega,HB6⟩
        case measure=>simp[intOf];omega
      · have HG2:Hid (ofS ((Y.take (k+1)).filter fg) fd=ofS ((Y.take k).filter fg) fd++ [Zht fd P]):=by
         show _=_;rw[hgs,Yal hd1];exact Zars _ _ _
        have qd:(d != -1)=true:=by rw[bne_iff_ne];exact hd1
        obtain⟨m,hm⟩: ∃ m,P.length=m+1:=⟨P.length-1,by have:=Ycw.2 hok.1;omega⟩
        have hlo:Zht fd P=⟨(m:Int),P[m],d⟩:=by
         have e1:P.getLastD ⟨#[]⟩=P[m]:=by
          rw[Ybx,Ydr,show P.length-1=m by omega,Yaj (by omega)];rfl
         have e2:P.length-1=m:=by omega
         unfold Zht;rw[hd,e1,e2]
        rw[hlo]at HG2;obtain⟨bp,op,rfl,habp,haddp,hxp⟩:=(HR5.out).strAt (i:=m) (by omega)
        have hm16:m<16:=by have:=hok.2.1;omega
        have HXp:Hid (∀ W,Below w5.heap.size w5 W→W.cell? ⟨bp,op+m,none⟩=some (.string P[m])):=fun W hb=>(hb.cell (p:=⟨bp,op+m,none⟩) habp).trans hxp
        have hm1:IntKind.i64.wrap (m:Int)=(m:Int):=by rw[IntKind.wrap_i64];omega
        have hm2:(m:Int)<(m:Int)+1:=by omega
        have hm0':(0:Int)≤(m:Int):=by omega
        have hll:(ofS ((Y.take k).filter fg) fd).length≤k:=by
         rw[Zme];exact Yas (Yce _ _) (by rw[Yaf];omega)
        rw[hm]at HDc;generalize P[m]=sw at *;clear hgs hd hd1 hlo HR5 hxp hok;rw[hm];go_wp2_with fail;refine HDc.out.mono ?_;rintro e w6 ⟨rfl,hb6⟩;have HB6:=Zhd (Zaa HB5.out hb6);have HO7:=Zhd (Zah HO5.out hb6);have HD7:=Zhd (Zah HD5.out hb6);have y0:=HXp.out w6 hb6;clear hb6 HO5 HD5 HB5 HDc HXp;go_wp2_with (at_builtin;refine Zmp rfl _ _ 26 rfl w4 w6 62 j0 _ 3 32 underlying26 hj hy0 hy1 hy2 rfl (by decide) (by decide) HO7.out HB6.out rfl 1 1 [.int .i64 (m:Int), .string sw, .int .i64 d] rfl rfl (by intro u hu;simp only[Yax,Yby,or_false]at hu;rcases hu with rfl|rfl|rfl<;>rfl) (by omega) ?_;intro v8 w8 hown8 hb8 hk8)
        have ho8:=Zng (l:=⟨(m:Int),sw,d⟩) hown8;rw[←HG2.out]at ho8;have HO8:=Zhd ho8;have HD8:=Zhd (hk8.own (show(34:TypeId)≠62 by decide) HD7.out)
        have HB8:=Zhd hb8;clear ho8 hown8 hb8 hk8 HO7 HD7 HB6;go_wp2_with fail;go_roundw
        case rel=>exact⟨k+1,bs,by omega,by go_num,HB2,HO8,HD8,by omega,HB8⟩
        case measure=>simp[intOf];omega
  · have hke:Y.take k=Y:=Ybk (by rw[HYl.out];omega)
    rw[hke]at HLn HOu;have HF:=Zhd (Zaa HB4.out HB.out);obtain⟨Ab,cb,e1,-⟩:=Zbe HBd.out;subst e1;have HLr:=Zhd (Lr.own HOu.out);have hll:(ofS (Y.filter fg) fd).length=(Y.filter fg).length:=Zme _ _;have hzz:=HZ.out;rw[←HLn.out,←hll]at hzz
    have hol:(ofS (Y.filter fg) fd).length≤600:=by
     rw[hll];exact Yas (Yce _ _) (by rw[HYl.out];omega)
    obtain⟨Ao,co,e2,-⟩:=HLr.out;subst e2;have hnI: ¬ ((k:Int)<(Q.length:Int)):=by omega
    generalize ofS (Y.filter fg) fd=out at *;clear HOu hll hke HLn HO HGQ HGs2 HBs2 HYl HStr HC HD HGd HZ;by_cases hb0:0<bs.length
    · rw[Yan hb0]at hzz;have HK:=Zhd hzz;have hbI:(0:Int)<(bs.length:Int):=by omega
      clear hzz;go_wp2;go_ret3;rw[HK.out];exact⟨⟨_,_,_,rfl,Zcu _⟩,HF.out⟩
    · rw[Yad hb0]at hzz;have hbI: ¬ (0:Int)<(bs.length:Int):=by omega
      by_cases hbig:200<out.length
      · rw[Yan hbig]at hzz;have HK:=Zhd hzz;have hoI:(200:Int)<(out.length:Int):=by omega
        clear hzz;go_wp2;go_ret3;rw[HK.out];exact⟨⟨_,_,_,rfl,Zcu _⟩,HF.out⟩
      · rw[Yad hbig]at hzz;have HK:=Zhd hzz;have hoI: ¬ (200:Int)<(out.length:Int):=by omega
        clear hzz;go_wp2;go_ret3;rw[HK.out];exact⟨⟨_,_,_,rfl,HLr.out⟩,HF.out⟩
end Go.Proofs.Zq
namespace Edt
open Go Go.Lib Tre Sch Lns
def Zavx (m:Int):Bool:=bits .and .i64 m 1 !=0
def offB (L:List Line) (q:List ByteArray):Bool:=(List.range q.length).any fun k=>Zavx (stB L (q.take (k+1)))
def onB (L:List Line) (q:List ByteArray):Bool:= !offB L q
def actP (L:List Line):List (List ByteArray):=(Zaf L).filter (onB L)
def Zhn (_:List ByteArray):Int:=0
def Zal (L:List Line):List Line:=ofS (actP L) Zhn
theorem Zrs {L:List Line} {q:List ByteArray} {d:Nat} (h:offB L q=false):offB L (q.take d)=false:=by
 unfold offB at *;rw[List.any_eq_false]at *;intro k hk;rw[Ycz,Yaf]at hk;have:=h k (Ycz.2 (by omega))
 rw[Yct,Ybb (by omega)]
 exact this
theorem Zyy {L:List Line} {q:List ByteArray} (h:q≠ []):offB L q=(offB L q.dropLast||Zavx (stB L q)):=by
 obtain⟨n,hn⟩: ∃ n,q.length=n+1:=⟨q.length-1,by have:=Ycw.2 h;omega⟩
 have hd:q.dropLast=q.take n:=by rw[Ydk,hn];rfl
 have hdl:q.dropLast.length=n:=by rw[Yci,hn];rfl
 have e1:offB L q.dropLast=(List.range n).any fun k=>Zavx (stB L (q.take (k+1))):=by
  unfold offB;rw[hdl,Ycl,List.any_eq_true,List.any_eq_true];constructor
  · rintro⟨k,hk,hx⟩;refine⟨k,hk, ?_⟩;rw[Ycz]at hk
    rwa [hd,Yct,Ybb (by omega)]at hx
  · rintro⟨k,hk,hx⟩;refine⟨k,hk, ?_⟩;rw[Ycz]at hk
    rwa [hd,Yct,Ybb (by omega)]
 have e2:q.take (n+1)=q:=Ybk (by omega)
 rw[e1];unfold offB;rw[hn,Ydm,List.any_append,List.any_cons,List.any_nil,Bool.or_false,e2]
theorem Zma {α:Type} (l:List α) (f:α→Bool) {i:Nat}: ∀ {e:Nat},i≤e→(∀ k (hk:k<l.length),i≤k→k<e→f l[k]=false)→(l.take e).filter f=(l.take i).filter f
 |0,h,_=>by rw[show i=0 by omega]
 | e +1,h,hf=>by
   by_cases hi:i=e+1
   · rw[hi]
   · have ih:=Zma l f (i:=i) (e:=e) (by omega) fun k hk h1 h2=>hf k hk h1 (by omega)
     by_cases he:e<l.length
     · rw[Yaw he,Yco,List.filter_cons,List.filter_nil,hf e he (by omega) (by omega),ih];simp
     · rw[←ih,Ybk (by omega),Ybk (by omega)]
section
variable {L:List Line} (hr:Zab L=true)
include hr
theorem pa_ne {i:Nat} (hi:i<L.length):pa L i≠ []:=fun e=>by
 have:=Zbt (Zac hr).2.1 hi;rw[e]at this;simp at this
theorem Zact:Zzo (actP L):=by
 refine Zsu (Zcx hr).1 fun q hq h=> ?_
 by_cases h0:q.dropLast= []
 · exact .inl h0
 · refine .inr ?_;have hne:q≠ []:=fun e=>h0 (by rw[e];rfl)
   unfold onB at *;rw[Zyy hne]at h;simp only[Yer,Yev]at h⊢;exact h.1
theorem Zef:Zab (Zal L)=true∧Zaf (Zal L)=actP L∧(∀ q,q∈actP L→stB (Zal L) q=0)∧ ∀ q,¬ q∈actP L→stB (Zal L) q= -1:=by
 refine Znf (Zact hr) ?_ fun q hq=>⟨Zib hr (Ydg.1 hq).1,Int.le_refl _,(by show(0:Int)≤3;decide)⟩
 have:=Yce (onB L) (Zaf L);rw[Zae]at this;exact Yas this (Zac hr).1
theorem Zaop {i j:Nat} (hi:i≤j) (hj:j+1<L.length) (he:j<endB L i) (hd:Zao L (j+1)≤Zao L i+1):(pa L (j+1)).dropLast=(pa L i).take (Zao L (j+1)).toNat:=by
 obtain⟨s,hs⟩:=(Zdr hr (by omega:i<L.length) (by omega:j<L.length)).2 ⟨hi,he⟩
 have h1:=Zbt (Zac hr).2.1 (by omega:i<L.length)
 have h2:=Zby (Zac hr).2.1 (by omega:i<L.length)
 have h3:=Zby (Zac hr).2.1 hj;rw[Zjb hj,Yed,hs,Ycf (by omega)]
theorem Zavy {i:Nat} (hi:i<L.length) (h:offB L (pa L i)=false):i+1<L.length→offB L (pa L (i+1)).dropLast=false:=fun hj=>by
 have h1:=Zkt (Zac hr).2.1 hj;have h2:=(Zbc L i hi).1;rw[Zaop hr (Yag i) hj (by omega) h1]
 exact Zrs h
theorem Zarv {i:Nat} (hi:i<L.length) (h:offB L (pa L i).dropLast=false):endB L i<L.length→offB L (pa L (endB L i)).dropLast=false:=fun he=>by
 obtain⟨g1,g2⟩:=Zbc L i hi;obtain⟨j,hj⟩: ∃ j,endB L i=j+1:=⟨endB L i-1,by omega⟩
 have h1:=Zqy hi he;have h2:=Zbt (Zac hr).2.1 hi;have h3:=Zby (Zac hr).2.1 hi;rw[hj]at h1 he⊢;have h4:=Zby (Zac hr).2.1 he;rw[Zaop hr (by omega:i≤j) he (by omega) (by omega)]
 have e:(pa L i).take (Zao L (j+1)).toNat=(pa L i).dropLast.take (Zao L (j+1)).toNat:=by
  rw[Ydk,Yct,Ybb (by omega)]
 rw[e];exact Zrs h
theorem Zarw {i:Nat} (hi:i<L.length) (h:offB L (pa L i)=true) {k:Nat} (hk:k<L.length) (h1:i≤k) (h2:k<endB L i):onB L (pa L k)=false:=by
 obtain⟨s,hs⟩:=(Zdr hr hi hk).2 ⟨h1,h2⟩;unfold onB;cases hq:offB L (pa L k)with
 |true=>rfl
 | false=>
   have:=Zrs (d:=(pa L i).length) hq;rw[hs,List.take_left]at this;rw[this]at h;cases h
theorem Zapc {i:Nat} (hi:i<L.length) (h:offB L (pa L i)=true):((Zaf L).take (endB L i)).filter (onB L)=((Zaf L).take i).filter (onB L):=
 Zma _ _ (by have:=(Zbc L i hi).1;omega) fun k hk h1 h2=>by
  have hk':k<L.length:=by rwa [Zae]at hk
  have:=Zarw hr hi h hk' h1 h2
  rwa [Zfj hk']at this
theorem Zapb {i:Nat} (hi:i<L.length) (h:offB L (pa L i)=false):ofS (((Zaf L).take (i+1)).filter (onB L)) Zhn=ofS (((Zaf L).take i).filter (onB L)) Zhn++ [⟨L[i].depth,L[i].word,0⟩]:=by
 have e1:(Zaf L).take (i+1)=(Zaf L).take i++ [pa L i]:=by
  rw[Zfj hi,Yaw (by rw[Zae];exact hi)]
 have e2:onB L (pa L i)=true:=by unfold onB;rw[h];rfl
 rw[e1,Yco,List.filter_cons,List.filter_nil,e2];unfold ofS;rw[Ybu];congr 1;have h1:=Zbt (Zac hr).2.1 hi;have h2:=Zby (Zac hr).2.1 hi;have h3:=Zex hr hi;rw[Zau hi]at h1 h2;rw[Zbj hi]at h3;show [Zht Zhn (pa L i)]=_;unfold Zht;rw[h3,show(((pa L i).length-1:Nat):Int)=L[i].depth by omega];rfl
end
end Edt
namespace Go.Proofs.Zq
open Tryz
open Go Go.RowKit Go.Sort Tre Lx Prs Lns Edt
theorem Zwl (w:World) (T:TypeId) (l:Line):Rd (w.alloc (.cells #[.int .i64 l.depth, .string l.word, .int .i64 l.mark] T)) 3 (some ⟨w.heap.size,0,none⟩) 1 l.cells:=by
 refine⟨rfl,fun _=>⟨_,rfl,by simp,fun j u hu=> ?_⟩⟩
 rw[Zag,Ybj,World.cell?_alloc_at _ _ _ _ rfl,Ydd];exact hu
theorem Znz (v:Value) (L:List Line) (w:World) (hL:Lr w v L) (hr:Zab L=true):
 Calls prog 54 #[v] w fun e w'=>(∃ v',e= .returned (.tuple #[v', .int .i64 0])∧w'.ownsRow w.heap.size 62 3 v' (Zal L).length (lines (Zal L)))∧Below w.heap.size w w':=by
 obtain⟨j0,hj,hy0,hy1,hy2⟩:=info_parts Zhg;obtain⟨A,cap,rfl,hcap,hc,hR,hnil⟩:=hL;have hRi:=Zbg A cap L w hR hcap hc;rw[hr]at hRi;have HRi:=Zhd hRi;have HEn:=Zhd (fun(k:Nat) (hk:k<L.length) (W:World) (hb:Below w.heap.size w W)=>Zxt A cap L k W (hR.below hb) hcap hc hr hk)
 have HR:=Zhd hR;have h200:=Zas hr;have HRt:=Zhd hr;clear hR hr hRi hnil;unfold maxLen at hc;have mixed:prog.follows .mixedOrders=true:=by kernel_rfl
 go_enter func54,ntmps54;go_wp2_with fail;refine HRi.out.mono ?_;rintro e w1 ⟨rfl,hb1⟩;have HB1:=Zhd hb1;clear HRi hb1;go_wp2;go_loopw [4,5] (fun vo vi wr=> ∃ i:Nat,vi= .int .i64 i∧i≤L.length∧Hid (i<L.length→offB L (pa L i).dropLast=false)∧Hid (wr.ownsRow w.heap.size 62 3 vo (ofS (((Zaf L).take i).filter (onB L)) Zhn).length (lines (ofS (((Zaf L).take i).filter (onB L)) Zhn)))∧Hid (Below w.heap.size w wr)) (fun _ vi _=>L.length-(intOf vi).toNat)
 case atStart=>
  refine⟨0,rfl,Yao _,fun h=> ?_,World.ownsRow_nil _ _ _ _,HB1.out⟩
  rw[Zrv (Zac HRt.out).2.1 h];rfl
 case round=>
  clear HB1;obtain⟨i,rfl,hi,HI,HO,HB⟩:=hrel;by_cases hlt:i<L.length
  · obtain⟨B,O,rfl,hab,hadd,y0,y1,y2⟩:=HR.out.line hlt
    have HY:Hid (∀ W,Below w.heap.size w W→W.cell? ⟨B,O+i*3,none⟩=some (.int .i64 L[i].depth)∧W.cell? ⟨B,O+i*3+1,none⟩=some (.string L[i].word)):=fun W hb=>
     ⟨(hb.cell (p:=⟨B,O+i*3,none⟩) hab).trans y0,(hb.cell (p:=⟨B,O+i*3+1,none⟩) hab).trans y1⟩
    have x2:=(HB.out.cell (p:=⟨B,O+i*3+2,none⟩) hab).trans y2;clear y0 y1 y2;have hi0:=HI.out hlt;have hlast:=Zyy (L:=L) (pa_ne HRt.out hlt);rw[hi0,Ztg HRt.out hlt,Bool.false_or]at hlast;have hiI:(i:Int)<(L.length:Int):=by omega
    have hll:(ofS (((Zaf L).take i).filter (onB L)) Zhn).length≤i:=by
     rw[Zme];exact Yas (Yce _ _) (by rw[Yaf];omega)
    cases hof:offB L (pa L i)with
    | true=>
      rw[hof]at hlast;have qe:(bits .and .i64 L[i].mark 1 !=0)=true:=hlast.symm;have HI2:=Zhd (Zarv HRt.out hlt hi0);have HS:=Zhd (Zapc HRt.out hlt hof);obtain⟨g1,g2⟩:=Zbc L i hlt;have HE:=Zhd (HEn.out i hlt wr HB.out);obtain⟨e1,he1⟩: ∃ e1,endB L i=e1+1:=⟨endB L i-1,by omega⟩
      rw[he1]at HE HI2 HS g1 g2;have ho:=HO.out;rw[←HS.out]at ho;have HO2:=Zhd ho;have hw1:IntKind.i64.wrap (e1:Int)=(e1:Int):=by rw[IntKind.wrap_i64];omega
      generalize L[i].mark=mk at *;clear hlast hof hi0 HI HS HY ho he1 hll HO;go_wp2_with fail;refine HE.out.mono ?_;rintro e w2 ⟨rfl,hb2⟩;have HB2:=Zhd (Zaa HB.out hb2);have HO3:=Zhd (Zah HO2.out hb2);clear hb2 HO2 HB HE x2;go_wp2;go_roundw
      case rel=>exact⟨e1+1,by go_num,by omega,HI2,HO3,HB2⟩
      case measure=>simp[intOf];omega
    | false=>
      rw[hof]at hlast;have qe:(bits .and .i64 L[i].mark 1 !=0)=false:=hlast.symm;have HI2:=Zhd (Zavy HRt.out hlt hof);have HS:=Zhd (Zapb HRt.out hlt hof);generalize L[i].mark=mk at *;generalize L[i].depth=d at *;generalize L[i].word=sw at *;clear hlast hof hi0 HI;go_wp2_with fail;have hwz:=HB.out.size;go_region_held3 (fun W=>W.cell? ⟨B,O+i*3,none⟩=some (.int .i64 d)∧W.cell? ⟨B,O+i*3+1,none⟩=some (.string sw)) (first|exact z7|exact HY.out _ HB.out.drew|exact HY.out _ (HB.out.drew.alloc hwz _)|go_keep) (first|(refine Zko rfl _ _ 26 rfl w.heap.size _ 62 j0 _ 3 32 underlying26 hj hy0 hy1 hy2 rfl (by decide) (by decide) ((Zah HO.out (Yae _ _).drew).alloc _) (by simp;omega) (by rfl) (some ⟨wr.heap.size,0,none⟩) 1 1 (Line.cells ⟨d,sw,0⟩) rfl (Zwl wr.drew 62 ⟨d,sw,0⟩) (fun h=>by cases h) (cells_one _) (by omega) ?_;intro v7 w7 hown7 hb7 hk7;have HB7:=Zhd ((HB.out.drew.alloc hwz _).trans hb7);have z7:=HY.out w7 HB7.out;have ho7:=Zng (l:=⟨d,sw,0⟩) hown7;rw[←HS.out]at ho7;have HO7:=Zhd ho7;clear hown7 hb7 hk7 ho7))
      all_goals
       clear HY HS HB HO x2;go_wp2;go_roundw
       case rel=>exact⟨i+1,by go_num,by omega,HI2,HO7,HB7⟩
       case measure=>simp[intOf];omega
  · have hie:i=L.length:=by omega
    have ho:=HO.out;rw[Ybk (by rw[Zae];omega)]at ho
    have HF:Hid (wr.ownsRow w.heap.size 62 3 _ (Zal L).length (lines (Zal L))):=ho;clear HI HO ho;have hnI: ¬ ((i:Int)<(L.length:Int)):=by omega
    go_wp2;go_ret2;exact⟨⟨_,rfl,HF.out⟩,HB.out⟩
end Go.Proofs.Zq
namespace Sch
open Go Go.Lib Adr Mtr Tre
def subL (L:List Line) (i:Nat):List Line:=((L.drop i).take (endB L i-i)).map fun l=>⟨l.depth-Zao L i,l.word,l.mark⟩
def nf (f:Zpk):Bool:= !(decide (f.2=7))
section
variable {L:List Line} (hr:Zab L=true)
include hr
end
end Sch
