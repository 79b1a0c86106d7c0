import Derived.Test.YtkbojechhmmkcaaGreatDoorK23
set_option linter.unusedVariables false
set_option linter.unusedSimpArgs false
set_option maxHeartbeats 4000000
set_option maxRecDepth 100000
namespace Edt
open Go Go.Lib Tre Sch Lns
def allP (B M T:List Line):List (List ByteArray):=uniS (Zad B++Zad M++Zad T)
def Ztf (B M T:List Line) (p:List ByteArray):Bool:= !conB B M T p&&decide (decB B M T p≠ -1)
def badL (B M T:List Line):List (List ByteArray):=(allP B M T).filter (conB B M T)
def Zrp (B M T:List Line):List (List ByteArray):=(allP B M T).filter (Ztf B M T)
def Zdw (B M T:List Line):List Line×Nat×Int:=
 if 0<(badL B M T).length then([],(badL B M T).length,8)else if 200<(Zrp B M T).length then([],0,5)else(ofS (Zrp B M T) (decB B M T),0,0)
theorem Zahd (p:List ByteArray): ∀ l,(insP p l).length≤l.length+1
 | []=>Yaf _
 | q ::r=>by
   unfold insP;have:=Zahd p r;split
   · simp
   · split
     · simp
     · simp;omega
theorem Zzp: ∀ l,(uniS l).length≤l.length
 | []=>Yaf _
 | q::r=>by
   have h1:=Zahd q (uniS r);have h2:=Zzp r;show(insP q (uniS r)).length≤_;simp;omega
theorem Zmn {B M T:List Line} {p:List ByteArray}:p∈allP B M T↔p∈Zad B∨p∈Zad M∨p∈Zad T:=by
 unfold allP;rw[Zyu,Ybn,Ybn];constructor
 · rintro((h|h)|h)
   · exact .inl h
   · exact .inr (.inl h)
   · exact .inr (.inr h)
 · rintro(h|h|h)
   · exact .inl (.inl h)
   · exact .inl (.inr h)
   · exact .inr h
section
variable {B M T:List Line} (h1:Zab B=true) (h2:Zab M=true) (h3:Zab T=true)
include h1 h2 h3
theorem Zog {p:List ByteArray} (h:p∈allP B M T):okP p:=by
 rcases Zmn.1 h with h|h|h
 · exact Zjg h1 h
 · exact Zjg h2 h
 · exact Zjg h3 h
theorem Zbbe {p:List ByteArray} (h:p∈allP B M T):p.dropLast= []∨p.dropLast∈allP B M T:=by
 have key: ∀ {X:List Line},Zab X=true→p∈Zad X→p.dropLast= []∨p.dropLast∈Zad X:=fun hr hp=>((Zcx hr).1.2 p hp).2.symm
 rcases Zmn.1 h with h|h|h
 · exact(key h1 h).imp id fun x=>Zmn.2 (.inl x)
 · exact(key h2 h).imp id fun x=>Zmn.2 (.inr (.inl x))
 · exact(key h3 h).imp id fun x=>Zmn.2 (.inr (.inr x))
theorem Zanr (p:List ByteArray):decB B M T p= -2∨(-1≤decB B M T p∧decB B M T p≤3):=by
 have g1:=Zacq h1 p;have g2:=Zacq h2 p;have g3:=Zacq h3 p;unfold decB decI;split
 · exact .inr g2
 · split
   · exact .inr g3
   · exact .inl rfl
theorem Znv (h:(Zdw B M T).2.2=0):Zab (Zdw B M T).1=true∧Zad (Zdw B M T).1=Zrp B M T∧(∀ q∈Zrp B M T,stB (Zdw B M T).1 q=decB B M T q)∧(∀ q,¬ q∈Zrp B M T→stB (Zdw B M T).1 q= -1)∧badL B M T= []:=by
 unfold Zdw at h⊢;by_cases hb:0<(badL B M T).length
 · rw[Yam hb]at h;exact absurd (show(8:Int)=0 from h) (by decide)
 · rw [Yab hb]at h⊢;by_cases hl:200<(Zrp B M T).length
   · rw[Yam hl]at h;exact absurd (show(5:Int)=0 from h) (by decide)
   · rw [Yab hl];have hb0:badL B M T= []:=Yap (by omega)
     have hcon: ∀ p∈allP B M T,conB B M T p=false:=fun p hp=>by
      cases hc:conB B M T p with
      |false=>rfl
      | true=>
        have:p∈badL B M T:=Ycu.2 ⟨hp,hc⟩;rw[hb0]at this;cases this
     have hgood: ∀ p,p∈Zrp B M T↔p∈allP B M T∧decB B M T p≠ -1:=fun p=>by
      unfold Zrp Ztf;rw[Ycu];constructor
      · rintro⟨a,b⟩;simp only[Yaq,Yao]at b;exact⟨a,b.2⟩
      · rintro⟨a,b⟩;exact⟨a,by rw[hcon p a,Yal b];rfl⟩
     have ht:Zacv (Zrp B M T):=by
      refine⟨(Zsb _).filter _,fun q hq=> ?_⟩
      obtain⟨a,b⟩:=(hgood q).1 hq;have hok:=Zog h1 h2 h3 a;refine⟨hok.1, ?_⟩;rcases Zbbe h1 h2 h3 a with hu|hu
      · exact .inr hu
      · refine .inl ((hgood _).2 ⟨hu,fun hd=> ?_⟩)
        have hc:=hcon q a;unfold conB at hc;simp only[Ydl,Bool.and_eq_false_iff,decide_eq_false_iff_not]at hc;rcases hc.2 with(h5|h5)|h5
        · exact h5 b
        · have hdl:q.dropLast.length=q.length-1:=Ycb;have:q.dropLast= []:=Yap (by omega)
          exact(Zog h1 h2 h3 hu).1 this
        · exact h5 hd
     obtain⟨g1,g2,g3,g4⟩:=Zpb (S:=Zrp B M T) (st:=decB B M T) ht (by omega) (fun q hq=>by
      obtain⟨a,b⟩:=(hgood q).1 hq;have hc:=hcon q a;unfold conB at hc;simp only[Ydl,decide_eq_false_iff_not]at hc;have:=Zanr h1 h2 h3 q;exact⟨Zog h1 h2 h3 a,by omega,by omega⟩)
     exact⟨g1,g2,g3,g4,hb0⟩
end
theorem Zadz {B M T:List Line} {l:List (List ByteArray)} {k:Nat} (h:k<l.length):((l.take (k+1)).filter (Ztf B M T))=(l.take k).filter (Ztf B M T)++if Ztf B M T l[k]then [l[k]]else []:=by
 rw[Yax h,Yco];rw[List.filter_cons,List.filter_nil]
theorem Zajd {B M T:List Line} {l:List (List ByteArray)} {k:Nat} (h:k<l.length):((l.take (k+1)).filter (conB B M T))=(l.take k).filter (conB B M T)++if conB B M T l[k]then [l[k]]else []:=by
 rw[Yax h,Yco];rw[List.filter_cons,List.filter_nil]
end Edt
namespace Go.Proofs.Zq
open Tryz
open Go Go.RowKit Go.Sort Tre Lx Prs Lns Edt
theorem Zpd {w:World} {base:Nat} {v:Value} {L:List Line} {l:Line} (h:w.ownsRow base 62 3 v (L.length+1) (lines L++l.cells)):w.ownsRow base 62 3 v (L++ [l]).length (lines (L++ [l])):=by
 rw[Zbg,Zou,Yae,Ybz];exact h
theorem Zayc (S:List (List ByteArray)) (st:List ByteArray→Int) (q:List ByteArray):ofS (S++ [q]) st=ofS S st++ [Zic st q]:=by
 unfold ofS;rw[Ybv];rfl
theorem Zdr (w:World):Lr w (.slice none 0 0) []:=⟨none,0,rfl,Yaf _,by unfold maxLen;omega,Rd.nil,fun _=>rfl⟩
def Zazz (z:List Line×Nat×Int) (w:World) (e:Ending) (w':World):Prop:=
 (∃ v A c,e= .returned (.tuple #[v, .slice A z.2.1 c, .int .i64 z.2.2])∧Lr w' v z.1)∧Below w.heap.size w w'
theorem Zaer (v1 v2 v3:Value) (B M T:List Line) (w:World) (h1:Lr w v1 B) (h2:Lr w v2 M) (h3:Lr w v3 T) (hr1:Zab B=true) (hr2:Zab M=true) (hr3:Zab T=true):
 Calls prog 31 #[v1,v2,v3] w (Zazz (Zdw B M T) w):=by
 obtain⟨i0,hi,hz0,hz1,hz2⟩:=info_parts Zix;obtain⟨j0,hj,hy0,hy1,hy2⟩:=info_parts Zii
 have hR1:Hid (Calls prog 44 #[v1] w fun e w'=>e= .returned (.bool true)∧Below w.heap.size w w'):=by
  obtain⟨A,c,rfl,g1,g2,g3,-⟩:=h1;have:=Zbm A c B w g3 g1 g2
  rwa [hr1]at this
 have hR2:Hid (∀ W,Below w.heap.size w W→Calls prog 44 #[v2] W fun e w'=>e= .returned (.bool true)∧Below W.heap.size W w'):=fun W hb=>by
  obtain⟨A,c,rfl,g1,g2,g3,-⟩:=h2.below hb;have:=Zbm A c M W g3 g1 g2
  rwa [hr2]at this
 have hR3:Hid (∀ W,Below w.heap.size w W→Calls prog 44 #[v3] W fun e w'=>e= .returned (.bool true)∧Below W.heap.size W w'):=fun W hb=>by
  obtain⟨A,c,rfl,g1,g2,g3,-⟩:=h3.below hb;have:=Zbm A c T W g3 g1 g2
  rwa [hr3]at this
 have HP:=Zhd (fun(W:World) (hb:Below w.heap.size w W)=>Zalb v1 v2 v3 B M T W (h1.below hb) (h2.below hb) (h3.below hb) hr1 hr2 hr3)
 have HC:=Zhd (fun(W:World) (hb:Below w.heap.size w W) (p:Value) (P:List ByteArray) (hp:Pr W p P) (hl:P.length≤1000000)=>Zxo v1 v2 v3 p B M T P W (h1.below hb) (h2.below hb) (h3.below hb) hr1 hr2 hr3 hp hl)
 have HD:=Zhd (fun(W:World) (hb:Below w.heap.size w W) (p:Value) (P:List ByteArray) (hp:Pr W p P)=>Znn v1 v2 v3 p B M T P W (h1.below hb) (h2.below hb) (h3.below hb) hr1 hr2 hr3 hp)
 have HG:=Zhd (fun p (hp:p∈allP B M T)=>Zog hr1 hr2 hr3 hp)
 have hlen:(allP B M T).length≤600:=by
  have g1:=Zau hr1;have g2:=Zau hr2;have g3:=Zau hr3;have:=Zzp (Zad B++Zad M++Zad T);rw[Yae,Yae,Zaf,Zaf,Zaf]at this;unfold allP;omega
 obtain⟨a1,d1,e1,-⟩:=id h1;obtain⟨a2,d2,e2,-⟩:=id h2;obtain⟨a3,d3,e3,-⟩:=id h3;subst e1;subst e2;subst e3;have hU:uniS (Zad B++Zad M++Zad T)=allP B M T:=rfl;rw[hU]at HP;obtain⟨z,hz⟩: ∃ z,Zdw B M T=z:=⟨_,rfl⟩;have HZ:Hid (z=if 0<((allP B M T).filter (conB B M T)).length then([],((allP B M T).filter (conB B M T)).length,8)else if 200<((allP B M T).filter (Ztf B M T)).length then([],0,5)else(ofS ((allP B M T).filter (Ztf B M T)) (decB B M T),0,0)):=hz.symm
 have HGs:=Zhd (fun(k:Nat) (h:k<(allP B M T).length)=>Zadz (B:=B) (M:=M) (T:=T) h)
 have HBs:=Zhd (fun(k:Nat) (h:k<(allP B M T).length)=>Zajd (B:=B) (M:=M) (T:=T) h)
 have hgd: ∀ p,Ztf B M T p=(!conB B M T p&&decide (decB B M T p≠ -1)):=fun _=>rfl
 rw[hz];clear hz h1 h2 h3 hr1 hr2 hr3 hU;generalize allP B M T=Y at *;generalize conB B M T=fc at *;generalize Ztf B M T=fg at *;generalize decB B M T=fd at *;generalize B.length=n1 at *;generalize M.length=n2 at *;generalize T.length=n3 at *;have HGd:=Zhd hgd;clear hgd;go_enter func31,ntmps31;go_wp2_with fail;refine hR1.out.mono ?_;rintro e w1 ⟨rfl,hb1⟩;have HB1:=Zhd hb1;have HR2:=Zhd (hR2.out w1 HB1.out);clear hb1 hR1 hR2;go_wp2_with fail;refine HR2.out.mono ?_;rintro e w2 ⟨rfl,hb2⟩;have HB2:=Zhd (Zaa HB1.out hb2);have HR3:=Zhd (hR3.out w2 HB2.out);clear hb2 HR2 hR3 HB1;go_wp2_with fail;refine HR3.out.mono ?_;rintro e w3 ⟨rfl,hb3⟩;have HB3:=Zhd (Zaa HB2.out hb3);clear hb3 HR3 HB2;go_wp2_with fail;have HB3a:=Zhd (HB3.out.alloc HB3.out.size (.cells #[.slice a1 n1 d1, .slice a2 n2 d2, .slice a3 n3 d3] 96));have HP3:=Zhd (HP.out _ HB3a.out);have hstr: ∀ j,(w3.alloc (.cells #[.slice a1 n1 d1, .slice a2 n2 d2, .slice a3 n3 d3] 96)).cell? ⟨w3.heap.size,j,none⟩=(#[.slice a1 n1 d1, .slice a2 n2 d2, .slice a3 n3 d3]:Array Value)[j]?:=fun j=>World.cell?_alloc_at _ _ _ _ rfl
 have hs3:w3.heap.size<(w3.alloc (.cells #[.slice a1 n1 d1, .slice a2 n2 d2, .slice a3 n3 d3] 96)).heap.size:=by simp
 clear HP;refine HP3.out.mono ?_;rintro e w4 ⟨⟨v,Q,rfl,hO,hQ⟩,hb4⟩;have HB4:=Zhd (Zaa HB3a.out hb4)
 have HStr:Hid (∀ W,Below w4.heap.size w4 W→W.cell? ⟨w3.heap.size,0,none⟩=some (.slice a1 n1 d1)∧W.cell? ⟨w3.heap.size,1,none⟩=some (.slice a2 n2 d2)∧W.cell? ⟨w3.heap.size,2,none⟩=some (.slice a3 n3 d3)):=fun W hb=>by
  have hb':=hb4.trans (hb.mono hb4.size);exact⟨(hb'.cell (p:=⟨w3.heap.size,0,none⟩) hs3).trans (hstr 0),(hb'.cell (p:=⟨w3.heap.size,1,none⟩) hs3).trans (hstr 1),(hb'.cell (p:=⟨w3.heap.size,2,none⟩) hs3).trans (hstr 2)⟩
 obtain⟨A,c,e1,g1,g2,-⟩:=Zbj hO.1;subst e1;have hYl:Y.length=Q.length:=by rw[←hQ,Yay]
 have hQY: ∀ (k:Nat) (h:k<Q.length),Y[k]'(by omega)=Q[k].2:=fun k h=>by
  have:Y[k]'(by omega)=(Q.map Prod.snd)[k]'(by rw[Yay];exact h):=by congr 1;exact hQ.symm
  rw[this,Ycz]
 have HQY:=Zhd hQY;have HO:=Zhd hO;have hQl:Q.length≤600:=by omega
 have HGQ:Hid (∀ (k:Nat) (h:k<Q.length),okP Q[k].2):=fun k h=>HG.out _ (by rw[←hQY k h];exact Yaw _)
 have HGs2:Hid (∀ (k:Nat) (h:k<Q.length),(Y.take (k+1)).filter fg=(Y.take k).filter fg++if fg Q[k].2 then [Q[k].2]else []):=fun k h=>by rw[HGs.out k (by omega),hQY k h]
 have HBs2:Hid (∀ (k:Nat) (h:k<Q.length),(Y.take (k+1)).filter fc=(Y.take k).filter fc++if fc Q[k].2 then [Q[k].2]else []):=fun k h=>by rw[HBs.out k (by omega),hQY k h]
 have HYl:=Zhd hYl;clear hstr hs3 hO hb4 HP3 HB3a HG HGs HBs hQY hQ hYl HQY hlen g1 g2;go_wp2;go_loopw [10,11,35] (fun vo vb vk wr=> ∃ (k:Nat) (bs:List Value),k≤Q.length∧vk= .int .i64 k∧Hid (bs.length=((Y.take k).filter fc).length)∧Hid (wr.ownsRow w4.heap.size 62 3 vo (ofS ((Y.take k).filter fg) fd).length (lines (ofS ((Y.take k).filter fg) fd)))∧Hid (wr.ownsRow w4.heap.size 34 1 vb bs.length bs)∧bs.length≤k∧Hid (Below w4.heap.size w4 wr)) (fun _ _ vk _=>Q.length-(intOf vk).toNat)
 case atStart=>exact⟨0,[],Yas _,rfl,rfl,World.ownsRow_nil _ _ _ _,World.ownsRow_nil _ _ _ _,Yaf _,Yag _ _⟩
 case round=>
  obtain⟨k,bs,hk,rfl,HLn,HOu,HBd,hbk,HB⟩:=hrel;by_cases hlt:k<Q.length
  · obtain⟨m0,hm0⟩: ∃ m,Q.length=m+1:=⟨Q.length-1,by omega⟩
    have ho':=HO.out.1;rw[hm0]at ho';obtain⟨g,c',e1⟩:=Zda ho';obtain⟨rfl,rfl⟩:A=some ⟨g,0,none⟩∧c=c':=by
     injection e1 with e2 _ e3
     exact⟨e2,e3⟩
    clear ho' e1 hm0;have hgl:=(HO.out.1.lt g rfl).2;have x0:wr.cell? ⟨g,k,none⟩=some Q[k].1:=by
     rw[(HB.out.cell (p:=⟨g,k,none⟩) hgl),HO.out.1.cellAt k (by omega),Ydb,Yaj hlt];rfl
    have hpr:Hid (∀ W,Below w4.heap.size w4 W→Pr W Q[k].1 Q[k].2):=fun W hb=>((HO.out.2 _ (Yaw hlt)).below hb).pr
    have hgs:=HGs2.out k hlt;have hbs:=HBs2.out k hlt;have hok:=HGQ.out k hlt;have hkI:(k:Int)<(Q.length:Int):=by omega
    have hxc:=HStr.out wr HB.out;have x1:=hxc.1;have x2:=hxc.2.1;have x3:=hxc.2.2;rw[HGd.out]at hgs;generalize Q[k].2=P at *;generalize Q[k].1=pv at *;obtain⟨Ak,ck,rfl,hck,hck2,hRk⟩:=hpr.out wr HB.out;have HC1:=Zhd (HC.out wr (Zaa HB4.out HB.out) _ P (hpr.out wr HB.out) (Yat hok.2.1 (by omega)))
    have HD1:=Zhd (fun(W:World) (hb:Below w4.heap.size w4 W)=>HD.out W (Zaa HB4.out hb) _ P (hpr.out W hb))
    have HRk:=Zhd hRk;clear hpr hRk hxc;cases hfc:fc P with
    | true=>
      rw[hfc]at HC1 hgs hbs;have HG2:Hid ((Y.take (k+1)).filter fg=(Y.take k).filter fg):=by show _=_;rw[hgs];simp
      have HB2:Hid ((bs++ [Value.slice Ak P.length ck]).length=((Y.take (k+1)).filter fc).length):=by
       show _=_;rw[hbs,Yae,Yae,HLn.out];rfl
      clear hgs hbs hfc HLn;go_wp2_with fail;refine HC1.out.mono ?_;rintro e w5 ⟨rfl,hb5⟩;have HB5:=Zhd (Zaa HB.out hb5);have HO5:=Zhd (Zai HOu.out hb5);have HD5:=Zhd (Zai HBd.out hb5);clear hb5 HB HOu HBd HC1 HD1;go_wp2_with (at_builtin;refine Zfk rfl _ _ 71 rfl w4 w5 34 i0 _ 1 24 underlying71 hi hz0 hz1 hz2 rfl (by decide) (by decide) HD5.out HB5.out rfl 1 1 [.slice Ak P.length ck] rfl rfl (by intro u hu;rw[Ybu]at hu;rw[hu];rfl) (by omega) ?_;intro v6 w6 hown6 hb6 hk6)
      have HD6:Hid (w6.ownsRow w4.heap.size 34 1 v6 (bs++ [Value.slice Ak P.length ck]).length (bs++ [Value.slice Ak P.length ck])):=by show World.ownsRow _ _ _ _ _ _ _;rw[Yae];exact hown6
      have ho6:=hk6.own (show(62:TypeId)≠34 by decide) HO5.out
      rw[←HG2.out]at ho6;have HO6:=Zhd ho6;clear ho6;have HB6:=Zhd hb6;clear hown6 hb6 hk6 HO5 HD5 HB5;go_wp2_with fail;go_roundw
      case rel=>exact⟨k+1,_,by omega,by go_num,HB2,HO6,HD6,by rw[Yae,Ybz];omega,HB6⟩
      case measure=>simp[intOf];omega
    | false=>
      rw[hfc]at HC1 hgs hbs;have HB2:Hid (bs.length=((Y.take (k+1)).filter fc).length):=by show _=_;rw[hbs];simp[HLn.out]
      clear hbs hfc HLn;go_wp2_with fail;refine HC1.out.mono ?_;rintro e w5 ⟨rfl,hb5⟩;have HB5:=Zhd (Zaa HB.out hb5);have HO5:=Zhd (Zai HOu.out hb5);have HD5:=Zhd (Zai HBd.out hb5);have hxc:=HStr.out w5 HB5.out;have x1:=hxc.1;have x2:=hxc.2.1;have x3:=hxc.2.2;have HDc:=Zhd (HD1.out w5 HB5.out);have HR5:=Zhd (HRk.out.below hb5);clear hb5 HB HOu HBd HC1 HD1 HRk hxc;obtain⟨d,hd⟩: ∃ d,fd P=d:=⟨_,rfl⟩;rw[hd]at HDc hgs;by_cases hd1:d= -1
      · have HG2:Hid ((Y.take (k+1)).filter fg=(Y.take k).filter fg):=by show _=_;rw[hgs,Yai (fun h=>h hd1)];simp
        have qd:(d != -1)=false:=by rw[hd1];rfl
        have ho5:=HO5.out;rw[←HG2.out]at ho5;have HO6:=Zhd ho5;clear hgs hd hd1 ho5 HO5;go_wp2_with fail;refine HDc.out.mono ?_;rintro e w6 ⟨rfl,hb6⟩;have HB6:=Zhd (Zaa HB5.out hb6);have HO7:=Zhd (Zai HO6.out hb6);have HD7:=Zhd (Zai HD5.out hb6);clear hb6 HO6 HD5 HB5 HDc;go_wp2;go_roundw
        case rel=>exact⟨k+1,bs,by omega,by go_num,HB2,HO7,HD7,by omega,HB6⟩
        case measure=>simp[intOf];omega
      · have HG2:Hid (ofS ((Y.take (k+1)).filter fg) fd=ofS ((Y.take k).filter fg) fd++ [Zic fd P]):=by
         show _=_;rw[hgs,Yal hd1];exact Zayc _ _ _
        have qd:(d != -1)=true:=by rw[bne_iff_ne];exact hd1
        obtain⟨m,hm⟩: ∃ m,P.length=m+1:=⟨P.length-1,by have:=Ydf.2 hok.1;omega⟩
        have hlo:Zic fd P=⟨(m:Int),P[m],d⟩:=by
         have e1:P.getLastD ⟨#[]⟩=P[m]:=by
          rw[Ycd,Ydh,show P.length-1=m by omega,Yaj (by omega)];rfl
         have e2:P.length-1=m:=by omega
         unfold Zic;rw[hd,e1,e2]
        rw[hlo]at HG2;obtain⟨bp,op,rfl,habp,haddp,hxp⟩:=(HR5.out).strAt (i:=m) (by omega)
        have hm16:m<16:=by have:=hok.2.1;omega
        have HXp:Hid (∀ W,Below w5.heap.size w5 W→W.cell? ⟨bp,op+m,none⟩=some (.string P[m])):=fun W hb=>(hb.cell (p:=⟨bp,op+m,none⟩) habp).trans hxp
        have hm1:IntKind.i64.wrap (m:Int)=(m:Int):=by rw[IntKind.wrap_i64];omega
        have hm2:(m:Int)<(m:Int)+1:=by omega
        have hm0':(0:Int)≤(m:Int):=by omega
        have hll:(ofS ((Y.take k).filter fg) fd).length≤k:=by
         rw[Zlt];exact Yat (Yck _ _) (by rw[Yah];omega)
        rw[hm]at HDc;generalize P[m]=sw at *;clear hgs hd hd1 hlo HR5 hxp hok;rw[hm];go_wp2_with fail;refine HDc.out.mono ?_;rintro e w6 ⟨rfl,hb6⟩;have HB6:=Zhd (Zaa HB5.out hb6);have HO7:=Zhd (Zai HO5.out hb6);have HD7:=Zhd (Zai HD5.out hb6);have y0:=HXp.out w6 hb6;clear hb6 HO5 HD5 HB5 HDc HXp;go_wp2_with (at_builtin;refine Zfk rfl _ _ 26 rfl w4 w6 62 j0 _ 3 32 underlying26 hj hy0 hy1 hy2 rfl (by decide) (by decide) HO7.out HB6.out rfl 1 1 [.int .i64 (m:Int), .string sw, .int .i64 d] rfl rfl (by intro u hu;simp only[Yav,Ybq,or_false]at hu;rcases hu with rfl|rfl|rfl<;>rfl) (by omega) ?_;intro v8 w8 hown8 hb8 hk8)
        have ho8:=Zpd (l:=⟨(m:Int),sw,d⟩) hown8;rw[←HG2.out]at ho8;have HO8:=Zhd ho8;have HD8:=Zhd (hk8.own (show(34:TypeId)≠62 by decide) HD7.out)
        have HB8:=Zhd hb8;clear ho8 hown8 hb8 hk8 HO7 HD7 HB6;go_wp2_with fail;go_roundw
        case rel=>exact⟨k+1,bs,by omega,by go_num,HB2,HO8,HD8,by omega,HB8⟩
        case measure=>simp[intOf];omega
  · have hke:Y.take k=Y:=Ybh (by rw[HYl.out];omega)
    rw[hke]at HLn HOu;have HF:=Zhd (Zaa HB4.out HB.out);obtain⟨Ab,cb,e1,-⟩:=Zbj HBd.out;subst e1;have HLr:=Zhd (Lr.own HOu.out);have hll:(ofS (Y.filter fg) fd).length=(Y.filter fg).length:=Zlt _ _;have hzz:=HZ.out;rw[←HLn.out,←hll]at hzz
    have hol:(ofS (Y.filter fg) fd).length≤600:=by
     rw[hll];exact Yat (Yck _ _) (by rw[HYl.out];omega)
    obtain⟨Ao,co,e2,-⟩:=HLr.out;subst e2;have hnI: ¬ ((k:Int)<(Q.length:Int)):=by omega
    generalize ofS (Y.filter fg) fd=out at *;clear HOu hll hke HLn HO HGQ HGs2 HBs2 HYl HStr HC HD HGd HZ;by_cases hb0:0<bs.length
    · rw[Yam hb0]at hzz;have HK:=Zhd hzz;have hbI:(0:Int)<(bs.length:Int):=by omega
      clear hzz;go_wp2;go_ret3;rw[HK.out];exact⟨⟨_,_,_,rfl,Zdr _⟩,HF.out⟩
    · rw[Yab hb0]at hzz;have hbI: ¬ (0:Int)<(bs.length:Int):=by omega
      by_cases hbig:200<out.length
      · rw[Yam hbig]at hzz;have HK:=Zhd hzz;have hoI:(200:Int)<(out.length:Int):=by omega
        clear hzz;go_wp2;go_ret3;rw[HK.out];exact⟨⟨_,_,_,rfl,Zdr _⟩,HF.out⟩
      · rw[Yab hbig]at hzz;have HK:=Zhd hzz;have hoI: ¬ (200:Int)<(out.length:Int):=by omega
        clear hzz;go_wp2;go_ret3;rw[HK.out];exact⟨⟨_,_,_,rfl,HLr.out⟩,HF.out⟩
end Go.Proofs.Zq
namespace Edt
open Go Go.Lib Tre Sch Lns
def Zbcx (m:Int):Bool:=bits .and .i64 m 1 !=0
def offB (L:List Line) (q:List ByteArray):Bool:=(List.range q.length).any fun k=>Zbcx (stB L (q.take (k+1)))
def onB (L:List Line) (q:List ByteArray):Bool:= !offB L q
def actP (L:List Line):List (List ByteArray):=(Zad L).filter (onB L)
def Zht (_:List ByteArray):Int:=0
def Zal (L:List Line):List Line:=ofS (actP L) Zht
theorem Ztu {L:List Line} {q:List ByteArray} {d:Nat} (h:offB L q=false):offB L (q.take d)=false:=by
 unfold offB at *;rw[Yfc]at *;intro k hk;rw[Ycm,Yah]at hk;have:=h k (Ycm.2 (by omega))
 rw[Ycl,Yba (by omega)]
 exact this
theorem Zaby {L:List Line} {q:List ByteArray} (h:q≠ []):offB L q=(offB L q.dropLast||Zbcx (stB L q)):=by
 obtain⟨n,hn⟩: ∃ n,q.length=n+1:=⟨q.length-1,by have:=Ydf.2 h;omega⟩
 have hd:q.dropLast=q.take n:=by rw[Ydc,hn];rfl
 have hdl:q.dropLast.length=n:=by rw[Ycb,hn];rfl
 have e1:offB L q.dropLast=(List.range n).any fun k=>Zbcx (stB L (q.take (k+1))):=by
  unfold offB;rw[hdl,Yby,Yei,Yei];constructor
  · rintro⟨k,hk,hx⟩;refine⟨k,hk, ?_⟩;rw[Ycm]at hk
    rwa [hd,Ycl,Yba (by omega)]at hx
  · rintro⟨k,hk,hx⟩;refine⟨k,hk, ?_⟩;rw[Ycm]at hk
    rwa [hd,Ycl,Yba (by omega)]
 have e2:q.take (n+1)=q:=Ybh (by omega)
 rw[e1];unfold offB;rw[hn,Ydg,List.any_append,List.any_cons,List.any_nil,Bool.or_false,e2]
theorem Znq {α:Type} (l:List α) (f:α→Bool) {i:Nat}: ∀ {e:Nat},i≤e→(∀ k (hk:k<l.length),i≤k→k<e→f l[k]=false)→(l.take e).filter f=(l.take i).filter f
 |0,h,_=>by rw[show i=0 by omega]
 | e +1,h,hf=>by
   by_cases hi:i=e+1
   · rw[hi]
   · have ih:=Znq l f (i:=i) (e:=e) (by omega) fun k hk h1 h2=>hf k hk h1 (by omega)
     by_cases he:e<l.length
     · rw[Yax he,Yco,List.filter_cons,List.filter_nil,hf e he (by omega) (by omega),ih];simp
     · rw[←ih,Ybh (by omega),Ybh (by omega)]
section
variable {L:List Line} (hr:Zab L=true)
include hr
theorem pa_ne {i:Nat} (hi:i<L.length):pa L i≠ []:=fun e=>by
 have:=Zbz (Zac hr).2.1 hi;rw[e]at this;simp at this
theorem Zafx:Zacv (actP L):=by
 refine Zuz (Zcx hr).1 fun q hq h=> ?_
 by_cases h0:q.dropLast= []
 · exact .inl h0
 · refine .inr ?_;have hne:q≠ []:=fun e=>h0 (by rw[e];rfl)
   unfold onB at *;rw[Zaby hne]at h;simp only[Ydp,Ydl]at h⊢;exact h.1
theorem Zfe:Zab (Zal L)=true∧Zad (Zal L)=actP L∧(∀ q,q∈actP L→stB (Zal L) q=0)∧ ∀ q,¬ q∈actP L→stB (Zal L) q= -1:=by
 refine Zpb (Zafx hr) ?_ fun q hq=>⟨Zjg hr (Ycu.1 hq).1,Int.le_refl _,(by show(0:Int)≤3;decide)⟩
 have:=Yck (onB L) (Zad L);rw[Zaf]at this;exact Yat this (Zac hr).1
theorem Zatc {i j:Nat} (hi:i≤j) (hj:j+1<L.length) (he:j<endB L i) (hd:Zaj L (j+1)≤Zaj L i+1):(pa L (j+1)).dropLast=(pa L i).take (Zaj L (j+1)).toNat:=by
 obtain⟨s,hs⟩:=(Zes hr (by omega:i<L.length) (by omega:j<L.length)).2 ⟨hi,he⟩
 have h1:=Zbz (Zac hr).2.1 (by omega:i<L.length)
 have h2:=Zcf (Zac hr).2.1 (by omega:i<L.length)
 have h3:=Zcf (Zac hr).2.1 hj;rw[Zkg hj,Yeq,hs,Yce (by omega)]
theorem Zbcy {i:Nat} (hi:i<L.length) (h:offB L (pa L i)=false):i+1<L.length→offB L (pa L (i+1)).dropLast=false:=fun hj=>by
 have h1:=Zmj (Zac hr).2.1 hj;have h2:=(Zbb L i hi).1;rw[Zatc hr (Yaf i) hj (by omega) h1]
 exact Ztu h
theorem Zayf {i:Nat} (hi:i<L.length) (h:offB L (pa L i).dropLast=false):endB L i<L.length→offB L (pa L (endB L i)).dropLast=false:=fun he=>by
 obtain⟨g1,g2⟩:=Zbb L i hi;obtain⟨j,hj⟩: ∃ j,endB L i=j+1:=⟨endB L i-1,by omega⟩
 have h1:=Zli hi he;have h2:=Zbz (Zac hr).2.1 hi;have h3:=Zcf (Zac hr).2.1 hi;rw[hj]at h1 he⊢;have h4:=Zcf (Zac hr).2.1 he;rw[Zatc hr (by omega:i≤j) he (by omega) (by omega)]
 have e:(pa L i).take (Zaj L (j+1)).toNat=(pa L i).dropLast.take (Zaj L (j+1)).toNat:=by
  rw[Ydc,Ycl,Yba (by omega)]
 rw[e];exact Ztu h
theorem Zayg {i:Nat} (hi:i<L.length) (h:offB L (pa L i)=true) {k:Nat} (hk:k<L.length) (h1:i≤k) (h2:k<endB L i):onB L (pa L k)=false:=by
 obtain⟨s,hs⟩:=(Zes hr hi hk).2 ⟨h1,h2⟩;unfold onB;cases hq:offB L (pa L k)with
 |true=>rfl
 | false=>
   have:=Ztu (d:=(pa L i).length) hq;rw[hs,List.take_left]at this;rw[this]at h;cases h
theorem Zato {i:Nat} (hi:i<L.length) (h:offB L (pa L i)=true):((Zad L).take (endB L i)).filter (onB L)=((Zad L).take i).filter (onB L):=
 Znq _ _ (by have:=(Zbb L i hi).1;omega) fun k hk h1 h2=>by
  have hk':k<L.length:=by rwa [Zaf]at hk
  have:=Zayg hr hi h hk' h1 h2
  rwa [Zfu hk']at this
theorem Zatn {i:Nat} (hi:i<L.length) (h:offB L (pa L i)=false):ofS (((Zad L).take (i+1)).filter (onB L)) Zht=ofS (((Zad L).take i).filter (onB L)) Zht++ [⟨L[i].depth,L[i].word,0⟩]:=by
 have e1:(Zad L).take (i+1)=(Zad L).take i++ [pa L i]:=by
  rw[Zfu hi,Yax (by rw[Zaf];exact hi)]
 have e2:onB L (pa L i)=true:=by unfold onB;rw[h];rfl
 rw[e1,Yco,List.filter_cons,List.filter_nil,e2];unfold ofS;rw[Ybv];congr 1;have h1:=Zbz (Zac hr).2.1 hi;have h2:=Zcf (Zac hr).2.1 hi;have h3:=Zel hr hi;rw[Zaq hi]at h1 h2;rw[Zbe hi]at h3;show [Zic Zht (pa L i)]=_;unfold Zic;rw[h3,show(((pa L i).length-1:Nat):Int)=L[i].depth by omega];rfl
end
end Edt
namespace Go.Proofs.Zq
open Tryz
open Go Go.RowKit Go.Sort Tre Lx Prs Lns Edt
theorem Zza (w:World) (T:TypeId) (l:Line):Rd (w.alloc (.cells #[.int .i64 l.depth, .string l.word, .int .i64 l.mark] T)) 3 (some ⟨w.heap.size,0,none⟩) 1 l.cells:=by
 refine⟨rfl,fun _=>⟨_,rfl,by simp,fun j u hu=> ?_⟩⟩
 rw[Zag,Ybi,World.cell?_alloc_at _ _ _ _ rfl,Ycw];exact hu
theorem Zpz (v:Value) (L:List Line) (w:World) (hL:Lr w v L) (hr:Zab L=true):
 Calls prog 54 #[v] w fun e w'=>(∃ v',e= .returned (.tuple #[v', .int .i64 0])∧w'.ownsRow w.heap.size 62 3 v' (Zal L).length (lines (Zal L)))∧Below w.heap.size w w':=by
 obtain⟨j0,hj,hy0,hy1,hy2⟩:=info_parts Zii;obtain⟨A,cap,rfl,hcap,hc,hR,hnil⟩:=hL;have hRi:=Zbm A cap L w hR hcap hc;rw[hr]at hRi;have HRi:=Zhd hRi;have HEn:=Zhd (fun(k:Nat) (hk:k<L.length) (W:World) (hb:Below w.heap.size w W)=>Zaaq A cap L k W (hR.below hb) hcap hc hr hk)
 have HR:=Zhd hR;have h200:=Zau hr;have HRt:=Zhd hr;clear hR hr hRi hnil;unfold maxLen at hc;have mixed:prog.follows .mixedOrders=true:=by kernel_rfl
 go_enter func54,ntmps54;go_wp2_with fail;refine HRi.out.mono ?_;rintro e w1 ⟨rfl,hb1⟩;have HB1:=Zhd hb1;clear HRi hb1;go_wp2;go_loopw [4,5] (fun vo vi wr=> ∃ i:Nat,vi= .int .i64 i∧i≤L.length∧Hid (i<L.length→offB L (pa L i).dropLast=false)∧Hid (wr.ownsRow w.heap.size 62 3 vo (ofS (((Zad L).take i).filter (onB L)) Zht).length (lines (ofS (((Zad L).take i).filter (onB L)) Zht)))∧Hid (Below w.heap.size w wr)) (fun _ vi _=>L.length-(intOf vi).toNat)
 case atStart=>
  refine⟨0,rfl,Yas _,fun h=> ?_,World.ownsRow_nil _ _ _ _,HB1.out⟩
  rw[Ztx (Zac HRt.out).2.1 h];rfl
 case round=>
  clear HB1;obtain⟨i,rfl,hi,HI,HO,HB⟩:=hrel;by_cases hlt:i<L.length
  · obtain⟨B,O,rfl,hab,hadd,y0,y1,y2⟩:=HR.out.line hlt
    have HY:Hid (∀ W,Below w.heap.size w W→W.cell? ⟨B,O+i*3,none⟩=some (.int .i64 L[i].depth)∧W.cell? ⟨B,O+i*3+1,none⟩=some (.string L[i].word)):=fun W hb=>
     ⟨(hb.cell (p:=⟨B,O+i*3,none⟩) hab).trans y0,(hb.cell (p:=⟨B,O+i*3+1,none⟩) hab).trans y1⟩
    have x2:=(HB.out.cell (p:=⟨B,O+i*3+2,none⟩) hab).trans y2;clear y0 y1 y2;have hi0:=HI.out hlt;have hlast:=Zaby (L:=L) (pa_ne HRt.out hlt);rw[hi0,st_at HRt.out hlt,Bool.false_or]at hlast;have hiI:(i:Int)<(L.length:Int):=by omega
    have hll:(ofS (((Zad L).take i).filter (onB L)) Zht).length≤i:=by
     rw[Zlt];exact Yat (Yck _ _) (by rw[Yah];omega)
    cases hof:offB L (pa L i)with
    | true=>
      rw[hof]at hlast;have qe:(bits .and .i64 L[i].mark 1 !=0)=true:=hlast.symm;have HI2:=Zhd (Zayf HRt.out hlt hi0);have HS:=Zhd (Zato HRt.out hlt hof);obtain⟨g1,g2⟩:=Zbb L i hlt;have HE:=Zhd (HEn.out i hlt wr HB.out);obtain⟨e1,he1⟩: ∃ e1,endB L i=e1+1:=⟨endB L i-1,by omega⟩
      rw[he1]at HE HI2 HS g1 g2;have ho:=HO.out;rw[←HS.out]at ho;have HO2:=Zhd ho;have hw1:IntKind.i64.wrap (e1:Int)=(e1:Int):=by rw[IntKind.wrap_i64];omega
      generalize L[i].mark=mk at *;clear hlast hof hi0 HI HS HY ho he1 hll HO;go_wp2_with fail;refine HE.out.mono ?_;rintro e w2 ⟨rfl,hb2⟩;have HB2:=Zhd (Zaa HB.out hb2);have HO3:=Zhd (Zai HO2.out hb2);clear hb2 HO2 HB HE x2;go_wp2;go_roundw
      case rel=>exact⟨e1+1,by go_num,by omega,HI2,HO3,HB2⟩
      case measure=>simp[intOf];omega
    | false=>
      rw[hof]at hlast;have qe:(bits .and .i64 L[i].mark 1 !=0)=false:=hlast.symm;have HI2:=Zhd (Zbcy HRt.out hlt hof);have HS:=Zhd (Zatn HRt.out hlt hof);generalize L[i].mark=mk at *;generalize L[i].depth=d at *;generalize L[i].word=sw at *;clear hlast hof hi0 HI;go_wp2_with fail;have hwz:=HB.out.size;go_region_held3 (fun W=>W.cell? ⟨B,O+i*3,none⟩=some (.int .i64 d)∧W.cell? ⟨B,O+i*3+1,none⟩=some (.string sw)) (first|exact z7|exact HY.out _ HB.out.drew|exact HY.out _ (HB.out.drew.alloc hwz _)|go_keep) (first|(refine Zme rfl _ _ 26 rfl w.heap.size _ 62 j0 _ 3 32 underlying26 hj hy0 hy1 hy2 rfl (by decide) (by decide) ((Zai HO.out (Yag _ _).drew).alloc _) (by simp;omega) (by rfl) (some ⟨wr.heap.size,0,none⟩) 1 1 (Line.cells ⟨d,sw,0⟩) rfl (Zza wr.drew 62 ⟨d,sw,0⟩) (fun h=>by cases h) (cells_one _) (by omega) ?_;intro v7 w7 hown7 hb7 hk7;have HB7:=Zhd ((HB.out.drew.alloc hwz _).trans hb7);have z7:=HY.out w7 HB7.out;have ho7:=Zpd (l:=⟨d,sw,0⟩) hown7;rw[←HS.out]at ho7;have HO7:=Zhd ho7;clear hown7 hb7 hk7 ho7))
      all_goals
       clear HY HS HB HO x2;go_wp2;go_roundw
       case rel=>exact⟨i+1,by go_num,by omega,HI2,HO7,HB7⟩
       case measure=>simp[intOf];omega
  · have hie:i=L.length:=by omega
    have ho:=HO.out;rw[Ybh (by rw[Zaf];omega)]at ho
    have HF:Hid (wr.ownsRow w.heap.size 62 3 _ (Zal L).length (lines (Zal L))):=ho;clear HI HO ho;have hnI: ¬ ((i:Int)<(L.length:Int)):=by omega
    go_wp2;go_ret2;exact⟨⟨_,rfl,HF.out⟩,HB.out⟩
end Go.Proofs.Zq
namespace Sch
open Go Go.Lib Adr Mtr Tre
def subL (L:List Line) (i:Nat):List Line:=((L.drop i).take (endB L i-i)).map fun l=>⟨l.depth-Zaj L i,l.word,l.mark⟩
def nf (f:Zku):Bool:= !(decide (f.2=7))
section
variable {L:List Line} (hr:Zab L=true)
include hr
end
def shf (d:Int) (l:Line):Line:=⟨l.depth-d,l.word,l.mark⟩
def shTo (M:List Line) (d:Int) (k:Nat):List Line:=(M.take k).map (shf d)++M.drop k
theorem Zaic (M:List Line) (d:Int) (k:Nat):(shTo M d k).length=M.length:=by
 unfold shTo;rw[Yae,Yay,Yah,Yan];omega
theorem Zarz (M:List Line) (d:Int):shTo M d 0=M:=by unfold shTo;simp
theorem Zazg (M:List Line) (d:Int):shTo M d M.length=M.map (shf d):=by unfold shTo;simp
theorem Zbdq {M:List Line} {d:Int} {k:Nat} (h:k<M.length):(shTo M d k)[k]'(by rw[Zaic];exact h)=M[k]:=by
 unfold shTo;rw[Yep (by rw[Yay,Yah];omega)]
 simp only[Yay,Yah,Yba (Yem h),Yel];rw[Ydr];rfl
theorem Zary {M:List Line} {d:Int} {k:Nat} (h:k<M.length):lines (shTo M d (k+1))=(lines (shTo M d k)).set (k*3) (.int .i64 (M[k].depth-d)):=by
 unfold shTo;rw[Yaz h,Yax h,Ybv,Ybc];show lines ((M.take k).map (shf d)++([shf d M[k]]++M.drop (k+1)))=_;rw[Zbg,Zbg,Zbg,Zou];have hl:(lines ((M.take k).map (shf d))).length=k*3:=by rw[Zae,Yay,Yah,Yba (Yem h)]
 have h2:lines (M[k]::M.drop (k+1))= [.int .i64 M[k].depth, .string M[k].word, .int .i64 M[k].mark]++lines (M.drop (k+1)):=by
  rw[show M[k]::M.drop (k+1)= [M[k]]++M.drop (k+1)from rfl,Zbg,Zou];rfl
 rw[h2,List.set_append_right _ _ (by omega),hl,Yel]
 rfl
theorem Zasq (L:List Line) (n:Nat):((L.drop n).take (endB L n-n)).map (shf (Zaj L n))=subL L n:=rfl
end Sch
namespace Go.Proofs.Zq
open Tryz
open Go Go.RowKit Go.Sort Sch Adr Mtr Tre
theorem Zajm (ad:Addr) (n c:Nat) (M:List Line) (w:World) (hR:Rd w 3 (some ad) n (lines M)) (hn:M.length=n) (hb:n≤1000000):
 Calls prog 68 #[.slice (some ad) n c] w fun e w'=>(∃ v,e= .returned v∧w'.ownsRow w.heap.size 62 3 v n (lines M))∧Below w.heap.size w w':=by
 obtain⟨i0,hii,hz0,hz1,hz2⟩:=info_parts Zml;obtain⟨wo,hwo⟩: ∃ wo,w.alloc (.cells #[] 62)=wo:=⟨_,rfl⟩;have hbo:Below w.heap.size w wo:=by rw[←hwo];exact(Yag _ _).alloc (Yaf _) _
 have hown:wo.ownsRow w.heap.size 62 3 (.slice (some ⟨w.heap.size,0,none⟩) 0 0) 0 []:=by
  rw[←hwo];have:=World.ownsRow_lit (e:=62) (size:=3) (base:=w.heap.size) w #[] 0 (Yaf _) (by unfold maxLen;omega) rfl
  simpa using this
 have HR:=Zhd (hR.below hbo);have HO:=Zhd hown;have HBo:=Zhd hbo;have HM:=Zhd hn;have HC:Hid (∀ u∈lines M,u.oneCell'=true):=Zka _;have heq:=fun wx:World=>Lib.run_eql_slice_nil (P:=prog) wx 26 62 (some ad) n c 0 0 underlying26
 have HN:Hid (0+n≤1000000000):=by show _≤_;omega
 clear hR hown hbo hn;go_enter func68,ntmps68;go_wp2_with (at_builtin;(refine Zxh rfl _ _ 26 rfl w wo 62 i0 _ 3 32 underlying26 hii hz0 hz1 hz2 rfl (by decide) (by decide) HO.out HBo.out rfl (some ad) n c (lines M) rfl HR.out (fun h=>by cases h) HC.out HN.out ?_;intro v1 w3 hown1 hb3))
 have HO3:Hid (w3.ownsRow w.heap.size 62 3 v1 n (lines M)):=by show World.ownsRow _ _ _ _ _ _ _;simpa using hown1
 clear hown1;go_wp2_with fail;go_ret;exact⟨⟨_,rfl,HO3.out⟩,hb3⟩
def Zafw (L:List Line) (n:Nat) (w:World) (e:Ending) (w':World):Prop:=
 (∃ v,e= .returned v∧w'.ownsRow w.heap.size 62 3 v (subL L n).length (lines (subL L n)))∧Below w.heap.size w w'
theorem Zact (A:Option Addr) (cap:Nat) (L:List Line) (n:Nat) (w:World) (hR:Rd w 3 A L.length (lines L)) (hcap:L.length≤cap) (hc:cap≤maxLen) (hr:Zab L=true) (hn:n<L.length):
 Calls prog 90 #[.slice A L.length cap, .int .i64 n] w (Zafw L n w):=by
 have HTh:=Zhr A cap L n w hR hcap hc;rw[Zgk hr hn]at HTh;have HT:=Zhd HTh;have HEn:=Zhd (fun W (hb:Below w.heap.size w W)=>Zaaq A cap L n W (hR.below hb) hcap hc hr hn)
 have he:=Zbb L n hn;obtain⟨B,O,rfl,hab,hadd,x0,-,-⟩:=hR.line hn;have h200:=Zau hr;have hdb:=right_depth hr hn;have HD:Hid (Zaj L n=L[n].depth):=Zaq hn;have HSH:=Zhd (Zasq L n);have hMR:Rd w 3 (some ⟨B,O+n*3,none⟩) (endB L n-n) (lines ((L.drop n).take (endB L n-n))):=Zzb (by rw[Yan];exact Zub hR (Yem hn)) (by rw[Yan];omega)
 have hMl:((L.drop n).take (endB L n-n)).length=endB L n-n:=by rw[Yah,Yan];omega
 have HMD:Hid (∀ k,(h:k<((L.drop n).take (endB L n-n)).length)→0≤((L.drop n).take (endB L n-n))[k].depth∧((L.drop n).take (endB L n-n))[k].depth<16):=fun k h=>by
  rw[Ycs,Ydr];exact right_depth hr _
 have HX0:=Zhd x0;unfold maxLen at hc;generalize endB L n=E at *;have hsub:(E:Int)-(n:Int)=((E-n:Nat):Int):=by omega
 have hsub2:(cap:Int)-(n:Int)=((cap-n:Nat):Int):=by omega
 have hnE:(n:Int)≤(E:Int):=by omega
 have hEc:(E:Int)≤(cap:Int):=by omega
 have hnc: ¬ (cap=n):=by omega
 have hnc2: ¬ (n=cap):=by omega
 rw[HD.out]at HSH;generalize L[n].depth=d at *;generalize (L.drop n).take (E-n)=M at *;have HMR:=Zhd hMR;have HML:=Zhd hMl;have hdb1:=hdb.1;have hdb2:=hdb.2;have HRL:=Zhd hR;have hEL:E-n≤1000000:=by omega
 clear hR hMR hMl hdb x0;go_enter func90,ntmps90;go_wp2_with fail;refine HT.out.mono ?_;rintro e w1 ⟨rfl,hb1⟩;have HB1:=Zhd hb1;clear HT HTh hb1;go_wp2_with fail;refine(HEn.out w1 HB1.out).mono ?_;rintro e w2 ⟨rfl,hb2⟩;have HB2:=Zhd (Zaa HB1.out hb2);clear HEn HB1 hb2;have HCl:=Zhd (Zajm ⟨B,O+n*3,none⟩ (E-n) (cap-n) M w2 (HMR.out.below HB2.out) HML.out hEL);have HB2z:Hid (w.heap.size≤w2.heap.size):=HB2.out.size;go_wp2_with fail;refine HCl.out.mono ?_;rintro e w3 ⟨⟨v,rfl,hown⟩,hb3⟩;have HB3:=Zhd (Zaa HB2.out hb3);have hown':=Zkc hown HB2z.out
 obtain⟨g,c5,hv⟩: ∃ g c5,v= .slice (some ⟨g,0,none⟩) (E-n) c5:=by
  rcases hown'.2 with⟨-,h⟩|⟨g,cap',cur,h,-⟩
  · omega
  · exact⟨g,cap',h⟩
 subst hv;have hg:=(hown'.lt g rfl).1
 have HO:Hid (w3.ownsRow w.heap.size 62 3 (.slice (some ⟨g,0,none⟩) (E-n) c5) (E-n) (lines (shTo M d 0))):=by
  show World.ownsRow _ _ _ _ _ _ _;rw[Zarz];exact hown'
 have hcc:E-n≤c5∧c5≤maxLen:=by
  rcases hown'.2 with⟨h,-⟩|⟨g',cap',cur,h,-,-,h1,h2,-⟩
  · cases h
  · injection h with h3 h4 h5
    subst h5;exact⟨h1,h2⟩
 have HCC:=Zhd hcc;clear HCl hown hown' hb3 HB2 HB2z;generalize E-n=m at *;go_wp2;go_loopw [20] (fun vi wr=> ∃ k:Nat,k≤m∧vi= .int .i64 k∧Hid (wr.ownsRow w.heap.size 62 3 (.slice (some ⟨g,0,none⟩) m c5) m (lines (shTo M d k)))∧Hid (Below w.heap.size w wr)) (fun vi _=>m-(intOf vi).toNat)
 case atStart=>exact⟨0,Yas _,rfl,HO,HB3⟩
 case round=>
  clear HO HB3;obtain⟨k,hk,rfl,HO,HB⟩:=hrel;by_cases hlt:k<m
  · have hkM:k<M.length:=by rw[HML.out];exact hlt
    have hkc:=HO.out.cellAt (k*3) (by omega)
    have hfz:=HO.out.frozenAt (k*3);have hxb:=HMD.out k hkM;have hst:=HO.out.stored (k*3) (.int .i64 (M[k].depth-d));rw[←Zary hkM]at hst
    have hget:(lines (shTo M d k))[k*3]?=some (.int .i64 M[k].depth):=by
     have:=Zja (shTo M d k) k 0 (by rw[Zaic];exact hkM) (by omega)
     rw[Zbdq hkM]at this;simpa[Line.cells]using this
    rw[hget]at hkc;have y0:=(HB.out.cell (p:=⟨B,O+n*3,none⟩) hab).trans HX0.out;have hadd2:(⟨g,0,none⟩:Addr).add (k*3)=⟨g,k*3,none⟩:=by rw[Zag];simp
    have hmi:(k:Int)<(m:Int):=by omega
    have hk0:(0:Int)≤(k:Int):=by omega
    have hni:(n:Int)<(L.length:Int):=by omega
    have hn0:(0:Int)≤(n:Int):=by omega
    generalize M[k].depth=x at *;obtain⟨hx1,hx2⟩:=hxb;have HST:=Zhd hst;clear hst hget;go_wp2_with fail;go_still_tail 13,(by kernel_rfl)
    change wpList _ _ _ _ _ wr.drew;have HS2:Hid ((wr.drew.setCell ⟨g,k*3,none⟩ (.int .i64 (x-d))).ownsRow w.heap.size 62 3 (.slice (some ⟨g,0,none⟩) m c5) m (lines (shTo M d (k+1)))):=HST.out.1.drew;have HB4:Hid (Below w.heap.size w (wr.drew.setCell ⟨g,k*3,none⟩ (.int .i64 (x-d)))):=(below_drewN HB.out 1).setCell hg _;clear HST HB HO;go_wp2;go_roundw
    case rel=>exact⟨k+1,by omega,by go_num,HS2,HB4⟩
    case measure=>simp[intOf];omega
  · obtain rfl:k=m:=by omega
    have HF:Hid (Zafw L n w (.returned (.slice (some ⟨g,0,none⟩) k c5)) wr):=by
     refine⟨⟨_,rfl, ?_⟩,HB.out⟩;rw[←HSH.out,Yay,HML.out];have:=HO.out;rw[←HML.out]at this
     conv at this=>rhs;rw[Zazg]
     rw[HML.out]at this;exact this
    clear HO HB;go_wp2;go_ret;exact HF.out
end Go.Proofs.Zq
