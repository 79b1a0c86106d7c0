import Derived.Maps.AppendAt
import Derived.Test.YtkbojechhmmkcaaGreatDoorK30
set_option linter.unusedVariables false
set_option linter.unusedSimpArgs false
set_option maxHeartbeats 4000000
set_option maxRecDepth 100000
namespace Edt
open Go Go.Lib Tre Sch Lns
structure Chg where
 kind:Int
 path:List ByteArray
 mark:Int
def Zns (a b:List Line):Nat→Nat→List Chg
 |0,_=> []
 | f +1,i=>if i<a.length then match Zas b (pa a i)with
     |none=>⟨1,pa a i,0⟩::Zns a b f (endB a i)
     |some _=>Zns a b f (i+1)
   else []
def Zro (a b:List Line):List Chg:=Zns a b a.length 0
def Zatp (a b:List Line) (i:Nat):List Chg:=match Zas a (pa b i)with
 |none=> [⟨2,pa b i,(Zck b i).mark⟩]
 |some _=> []
def Zayk (a b:List Line) (i:Nat):List Chg:=match Zas a (pa b i)with
 |none=> []
 |some k=>if(Zck a k).mark=(Zck b i).mark then []else [⟨3,pa b i,(Zck b i).mark⟩]
def Zqw (a b:List Line) (k:Nat):List Chg:=(List.range k).flatMap (Zatp a b)
def Zpc (a b:List Line) (k:Nat):List Chg:=(List.range k).flatMap (Zayk a b)
def Zajt (a b:List Line):List Chg:=Zro a b++Zqw a b b.length++Zpc a b b.length
theorem Zlk {a b:List Line} (f:Nat) {i:Nat} (h:a.length≤i):Zns a b f i= []:=by
 cases f with
 |zero=>rfl
 |succ f=>unfold Zns;rw[Yab (by omega)]
theorem Zmk {a b:List Line}: ∀ (f g i:Nat),a.length-i≤f→a.length-i≤g→Zns a b f i=Zns a b g i
 |0,g,i,h,_=>by rw[Zlk 0 (by omega),Zlk g (by omega)]
 |f+1,0,i,_,h=>by rw[Zlk 0 (by omega),Zlk (f+1) (by omega)]
 | f +1,g+1,i,h1,h2=>by
   unfold Zns;by_cases hi:i<a.length
   · rw[Yam hi,Yam hi];have:=Zbb a i hi;cases Zas b (pa a i)with
     |none=>simp only;rw[Zmk f g (endB a i) (by omega) (by omega)]
     |some k=>exact Zmk f g (i+1) (by omega) (by omega)
   · rw[Yab hi,Yab hi]
def Zlj (a b:List Line) (i:Nat):List Chg:=Zns a b (a.length-i) i
theorem Zaon {a b:List Line} {i:Nat} (hi:i<a.length) (h:Zas b (pa a i)=none):Zlj a b i=⟨1,pa a i,0⟩::Zlj a b (endB a i):=by
 have:=Zbb a i hi;unfold Zlj;obtain⟨m,hm⟩: ∃ m,a.length-i=m+1:=⟨a.length-i-1,by omega⟩
 rw[hm]
 conv=>lhs;unfold Zns
 rw[Yam hi,h];simp only;rw[Zmk m (a.length-endB a i) (endB a i) (by omega) (Yaf _)]
theorem Zaoo {a b:List Line} {i k:Nat} (hi:i<a.length) (h:Zas b (pa a i)=some k):Zlj a b i=Zlj a b (i+1):=by
 unfold Zlj;obtain⟨m,hm⟩: ∃ m,a.length-i=m+1:=⟨a.length-i-1,by omega⟩
 rw[hm]
 conv=>lhs;unfold Zns
 rw[Yam hi,h];simp only;exact Zmk m (a.length-(i+1)) (i+1) (by omega) (Yaf _)
theorem Zaww {a b:List Line} {i:Nat} (h:a.length≤i):Zlj a b i= []:=Zlk _ h
theorem Zyf {a b:List Line}: ∀ (f i:Nat),(Zns a b f i).length≤a.length-i
 |0,i=>Yas _
 | f +1,i=>by
   unfold Zns;by_cases hi:i<a.length
   · rw[Yam hi];have:=Zbb a i hi;cases Zas b (pa a i)with
     |none=>have h:=Zyf (a:=a) (b:=b) f (endB a i);simp only[Ybd];omega
     |some k=>have h:=Zyf (a:=a) (b:=b) f (i+1);simp only;omega
   · rw[Yab hi];exact Yas _
theorem Zaop (a b:List Line):Zro a b=Zlj a b 0:=rfl
theorem Zamq (a b:List Line) (k:Nat):Zqw a b (k+1)=Zqw a b k++Zatp a b k:=by unfold Zqw;rw[Ydg,Ycf];simp
theorem Zaqm (a b:List Line) (k:Nat):Zpc a b (k+1)=Zpc a b k++Zayk a b k:=by unfold Zpc;rw[Ydg,Ycf];simp
end Edt
namespace Go.Proofs.Zq
open Tryz
open Go Go.RowKit Go.Sort Tre Lx Prs Lns Edt Sch
abbrev CV:=Int×PV×Int
def CV.chg (x:CV):Chg:=⟨x.1,x.2.1.2,x.2.2⟩
def cvc (Q:List CV):List Value:=Q.flatMap fun q=> [.int .i64 q.1,q.2.1.1, .int .i64 q.2.2]
theorem Zann (Q R:List CV):cvc (Q++R)=cvc Q++cvc R:=by unfold cvc;rw[Ycf]
theorem Zbbs (q:CV):cvc [q]= [.int .i64 q.1,q.2.1.1, .int .i64 q.2.2]:=rfl
def CRow (w:World) (base:Nat) (v:Value) (Q:List CV):Prop:=w.ownsRow base 93 3 v Q.length (cvc Q)∧ ∀ x∈Q,POwn w x.2.1
theorem CRow.below {w w':World} {base:Nat} {v:Value} {Q:List CV} (h:CRow w base v Q) (hb:Below w.heap.size w w'):CRow w' base v Q:=⟨Zai h.1 hb,fun x hx=>(h.2 x hx).below hb⟩
theorem Zji {w w':World} {x:PV} (h:POwn w x) (k:Zbw 93 w w'):POwn w' x:=k.own (by decide) h
theorem Zhz (w:World) (base:Nat):CRow w base (.slice none 0 0) []:=⟨World.ownsRow_nil _ _ _ _,fun x hx=>by cases hx⟩
theorem Zsx {w w':World} {base:Nat} {v':Value} {Q:List CV} {x:CV} (h:w'.ownsRow base 93 3 v' (Q.length+1) (cvc Q++ [.int .i64 x.1,x.2.1.1, .int .i64 x.2.2])) (hq: ∀ y∈Q,POwn w y.2.1) (hx:POwn w x.2.1) (k:Zbw 93 w w'):CRow w' base v' (Q++ [x]):=by
 refine⟨by rw[Zann,Zbbs];simpa using h,fun y hy=> ?_⟩
 rcases Ybn.1 hy with hy|hy
 · exact Zji (hq y hy) k
 · rw[Ybu]at hy;rw[hy];exact Zji hx k
def Apt (u v:Value):Prop:= ∀ q,u.ownBlock=some q→v.ownBlock≠some q
theorem Apt.symm {u v:Value} (h:Apt u v):Apt v u:=fun q h1 h2=>h q h2 h1
theorem Zbbi (v:Value):Apt v (.slice none 0 0):=fun q _ h=>by cases h
theorem Zamu {P:Program} {ops:Array Oper} {rest:List Oper} {o:Oper} {a:Act} {Q:Exit→Act→World→Prop} (hgd:o.guard=none) (s x:Operand) (t:TypeId)
 (ho:o.op= .call {callee:= .builtin .append,args:= #[s,x],argTypes:= #[t,t]})
 (w0 wr:World) (e:TypeId) (i:TypeInfo) (z:Value) (size bytes:Nat) (ht:P.underlying t=some (.slice e)) (hi:P.info? e=some i) (hz:i.zero=some z)
 (hsize:i.size=size) (hby:i.bytes=bytes) (hzs:z.cells.size=size) (hsz:0<size) (hb64:bytes≤64)
 {v:Value} {n:Nat} {xs:List Value} (hown:wr.ownsRow w0.heap.size e size v n xs) (hb:Below w0.heap.size w0 wr) (hs:a.eval s=v)
 (m c:Nat) (news:List Value) (hx:a.eval x= .slice (some ⟨wr.heap.size,0,none⟩) m c) (hl:news.length=m*size) (h1: ∀ u∈news,u.oneCell'=true)
 (hN:n+m≤1000000000) {u:Value} {k n2:Nat} {ys:List Value} (ho2:wr.ownsRow w0.heap.size e k u n2 ys) (hap:Apt u v)
 (h: ∀ v' w',w'.ownsRow w0.heap.size e size v' (n+m) (xs++news)→Below w0.heap.size w0 w'→Zbw e wr w'→w'.ownsRow w0.heap.size e k u n2 ys→Apt u v'→wpList P ops Q rest (a.put o.dst v') w'):
 wpList P ops Q (o::rest) a (wr.alloc (.cells news.toArray e)):=by
 have hbytes:(n+m)*bytes≤140737488355328:=Yat (Ydj hN hb64) (by decide)
 refine wpList_append_own_at _ hgd s x t ho w0.heap.size e i z size bytes ht hi hz hsize hby hzs hsz v n xs hs (hown.alloc _) ⟨wr.heap.size,0,none⟩ m c news hx hl ?_ h1 (by unfold maxLen;omega) hbytes (Yat hb.size (by simp)) ?_
 · intro j u hu;rw[Zag,Ybi,World.cell?_alloc_at _ _ _ _ rfl];simpa using hu
 · intro v' w' hown' hg _ hat;refine h v' w' hown' ((hb.alloc hb.size _).grown hg (Yat hb.size (by simp)) fun q hq=>(hown.lt q hq).1) (((Zbw.refl e wr).alloc _).trans (Zbw.grown (hown.alloc _) hg)) ?_ ?_
   · refine⟨ho2.1,ho2.2.imp id fun⟨g,cap,cur,f1,f2,f3,f4⟩=>⟨g,cap,cur,f1,f2, ?_,f4⟩⟩
     have hlt:=(Ybf.1 f3).1;refine(hg.block g (by simp;omega) fun e2=> ?_).trans ((heap_alloc_old (r:=g) wr _ hlt).trans f3)
     exact hap g (by rw[f1];rfl) e2.symm
   · intro q hq hv;rcases hat with hat|hat
     · exact hap q hq (by rw[←hat];exact hv)
     · rw[hat]at hv;injection hv with hv
       have:=(ho2.lt q hq).2;simp at hv;omega
theorem Zbbh {P:Program} {ops:Array Oper} {rest:List Oper} {o:Oper} {a:Act} {Q:Exit→Act→World→Prop} (hgd:o.guard=none) (s x:Operand) (t:TypeId)
 (ho:o.op= .call {callee:= .builtin .append,args:= #[s,x],argTypes:= #[t,t]})
 (B:Nat) (wr:World) (e:TypeId) (i:TypeInfo) (z:Value) (size bytes:Nat) (ht:P.underlying t=some (.slice e)) (hi:P.info? e=some i) (hz:i.zero=some z)
 (hsize:i.size=size) (hby:i.bytes=bytes) (hzs:z.cells.size=size) (hsz:0<size) (hb64:bytes≤64)
 {v:Value} {n:Nat} {xs:List Value} (hown:wr.ownsRow B e size v n xs) (hB:B≤wr.heap.size) (hs:a.eval s=v)
 (A:Option Addr) (m c:Nat) (news:List Value) (hx:a.eval x= .slice A m c) (hR:Rd wr size A m news) (hnil:A=none→c=0) (h1: ∀ u∈news,u.oneCell'=true)
 (hN:n+m≤1000000000)
 (h: ∀ v' w',w'.ownsRow B e size v' (n+m) (xs++news)→Below B wr w'→Zbw e wr w'→wpList P ops Q rest (a.put o.dst v') w'):
 wpList P ops Q (o::rest) a wr:=wpList_plain hgd fun K hK=>by
 have:=Zme (ops:=ops) (K:=K) (Q:=Q) (E:=True) hgd s x t ho B wr e i z size bytes ht hi hz hsize hby hzs hsz hb64 hown hB hs A m c news hx hR hnil h1 hN fun v' w' g1 g2 g3=>hK _ _ (h v' w' g1 g2 g3)
 rwa [Yam (by simp[Region.wanted,hgd])]at this
theorem Zagy:(prog.info? 93).map (fun i=>(i.zero,i.size,i.bytes))=some (some (.agg #[.int .i64 0, .slice none 0 0, .int .i64 0]),3,40):=by kernel_rfl
theorem Zawv (v1 v2:Value) (a b:List Line) (w:World) (h1:Lr w v1 a) (h2:Lr w v2 b) (hr1:Zab a=true) (hr2:Zab b=true):
 Calls prog 45 #[v1,v2] w fun e w'=>(∃ v Q,e= .returned v∧CRow w' w.heap.size v Q∧Q.map CV.chg=Zro a b)∧Below w.heap.size w w':=by
 obtain⟨i0,hi,hz0,hz1,hz2⟩:=info_parts Zagy;obtain⟨A1,c1,rfl,hc1,hm1,hR1,-⟩:=h1;obtain⟨A2,c2,rfl,hc2,hm2,hR2,-⟩:=h2;have h200:=Zau hr1;have HPa:=Zhd (fun(i:Nat) (hi:i<a.length) (W:World) (hb:Below w.heap.size w W)=>Zry A1 c1 a i W (hR1.below hb) hc1 hm1 hr1 hi)
 unfold Zpw at HPa;have HFi:=Zhd (fun(P:List ByteArray) (Ap:Option Addr) (cp:Nat) (W:World) (hb:Below w.heap.size w W) (hP:Rd W 1 Ap P.length (sv P)) (hcp:P.length≤cp) (hc:cp≤maxLen)=>Zca A2 c2 b Ap cp P W (hR2.below hb) hc2 hm2 hr2 hP hcp hc)
 have HEn:=Zhd (fun(i:Nat) (hi:i<a.length) (W:World) (hb:Below w.heap.size w W)=>Zaaq A1 c1 a i W (hR1.below hb) hc1 hm1 hr1 hi)
 have HLe:=Zhd (fun(i:Nat) (hi:i<a.length)=>Zbb a i hi)
 have HPL:=Zhd (fun(i:Nat) (hi:i<a.length)=>pathB_lenR hr1 hi)
 have HPB:=Zhd (fun(i:Nat) (hi:i<a.length)=>Zkh (Zac hr1).2.1 hi)
 have HZ:=Zhd (Zaop a b);unfold maxLen at hm1;clear hR1 hR2 hr1 hr2 hm2;go_enter func45,ntmps45;go_wp2_with fail;go_loopw [5,6] (fun v vi wr=> ∃ (i:Nat) (Q:List CV),i≤a.length∧vi= .int .i64 i∧Q.length≤i∧Hid (CRow wr w.heap.size v Q)∧Hid (Q.map CV.chg++Zlj a b i=Zro a b)∧Hid (Below w.heap.size w wr)) (fun _ vi _=>a.length-(intOf vi).toNat)
 case atStart=>exact⟨0,[],Yas _,rfl,Yaf _,Zhz _ _,HZ.out.symm,Yag _ _⟩
 case round=>
  clear HZ;obtain⟨i,Q,hi',rfl,hQl,HQ,HM,HB⟩:=hrel;by_cases hlt:i<a.length
  · have HP:=Zhd (HPa.out i hlt wr HB.out);have HS:=Zhd (fun k (h:Zas b (pa a i)=some k)=>Zaoo (b:=b) hlt h)
    have HN:=Zhd (fun(h:Zas b (pa a i)=none)=>Zaon (b:=b) hlt h)
    have hpl:=HPL.out i hlt;have hle:=HLe.out i hlt;have HEi:=Zhd (HEn.out i hlt);rw[HPB.out i hlt]at HP hpl;generalize pa a i=pp at *;generalize endB a i=en at *;clear HPa HEn HLe HPL HPB;have hii:(i:Int)<(a.length:Int):=by omega
    go_wp2_with fail;refine HP.out.mono ?_;rintro e w3 ⟨v7,rfl,ho7,hb7⟩;obtain⟨A7,c7,e7,g1,g2,g3⟩:=Zbj ho7;subst e7;have HO7:Hid (POwn w3 (.slice A7 pp.length c7,pp)):=World.ownsRow.mono ho7 (Yas _);have HQ3:=Zhd (HQ.out.below hb7);have HB3:=Zhd (Zaa HB.out hb7);have HF:=Zhd (HFi.out pp A7 c7 w3 HB3.out g3 g1 g2);clear ho7 hb7 HP HQ HB g1 g2 g3 HFi;go_wp2_with fail;refine HF.out.mono ?_;rintro e w4 ⟨rfl,hb4⟩;have HO4:=Zhd (HO7.out.below hb4);have HQ4:=Zhd (HQ3.out.below hb4);have HB4:=Zhd (Zaa HB3.out hb4);clear hb4 HO7 HQ3 HB3 HF;cases hf:Zas b pp with
    | some k=>
      have HM2:Hid (Q.map CV.chg++Zlj a b (i+1)=Zro a b):=by show _=_;rw[←HS.out k hf];exact HM.out
      clear HS HN HM HEi hf;go_wp2_with fail;go_roundw
      case rel=>exact⟨i+1,Q,by omega,by go_num,by omega,HQ4,HM2,HB4⟩
      case measure=>simp[intOf];omega
    | none=>
      have HM2:Hid (∀ v:Value,(Q++ [((1,(v,pp),0):CV)]).map CV.chg++Zlj a b en=Zro a b):=fun v=>by
       rw[Ybv,Ybc,←HM.out,HN.out hf];rfl
      clear HS HN HM hf;go_wp2_with (at_builtin;refine Zfk rfl _ _ 45 rfl w w4 93 i0 _ 3 40 underlying45 hi hz0 hz1 hz2 rfl (by decide) (by decide) HQ4.out.1 HB4.out rfl 1 1 [.int .i64 1, .slice A7 pp.length c7, .int .i64 0] rfl rfl (by intro u hu;simp only[Yav,Ybq,or_false]at hu;rcases hu with rfl|rfl|rfl<;>rfl) (by omega) ?_;intro v8 w8 hown8 hb8 hk8)
      have HQ8:Hid (CRow w8 w.heap.size v8 (Q++ [(1,(.slice A7 pp.length c7,pp),0)])):=Zsx (x:=(1,(.slice A7 pp.length c7,pp),0)) hown8 HQ4.out.2 HO4.out hk8;have HB8:=Zhd hb8;clear hown8 hb8 hk8 HQ4 HB4 HO4;have hw1:IntKind.i64.wrap ((en:Int)-1)=(en:Int)-1:=by rw[IntKind.wrap_i64];omega
      go_wp2_with fail;refine(HEi.out w8 HB8.out).mono ?_;rintro e w9 ⟨rfl,hb9⟩;have HQ9:=Zhd (HQ8.out.below hb9);have HB9:=Zhd (Zaa HB8.out hb9);clear hb9 HEi HQ8 HB8;go_wp2_with fail;go_roundw
      case rel=>exact⟨en,Q++ [(1,(.slice A7 pp.length c7,pp),0)],by omega,by go_num,by rw[Yae,Ybz];omega,HQ9,HM2.out _,HB9⟩
      case measure=>simp[intOf];omega
  · have HM2:Hid (Q.map CV.chg=Zro a b):=by
     show _=_;rw[←HM.out,Zaww (by omega),Ybg]
    obtain⟨A,c,rfl,-,-,-⟩:=Zbj HQ.out.1;go_wp2_with fail;go_ret;exact⟨⟨_,Q,rfl,HQ.out,HM2.out⟩,HB.out⟩
theorem Zawf (v1 v2:Value) (a b:List Line) (w:World) (h1:Lr w v1 a) (h2:Lr w v2 b) (hr1:Zab a=true) (hr2:Zab b=true):
 Calls prog 27 #[v1,v2] w fun e w'=>(∃ v Q,e= .returned (.tuple #[v, .int .i64 0])∧CRow w' w.heap.size v Q∧Q.map CV.chg=Zajt a b)∧Below w.heap.size w w':=by
 obtain⟨i0,hi,hz0,hz1,hz2⟩:=info_parts Zagy;have HG:=Zhd (fun(W:World) (hb:Below w.heap.size w W)=>Zawv v1 v2 a b W (h1.below hb) (h2.below hb) hr1 hr2)
 obtain⟨A1,c1,rfl,hc1,hm1,hR1,-⟩:=h1;obtain⟨A2,c2,rfl,hc2,hm2,hR2,-⟩:=h2;have h200:=Zau hr1;have h201:=Zau hr2;have HRa:=Zhd (fun(W:World) (hb:Below w.heap.size w W)=>Zbm A1 c1 a W (hR1.below hb) hc1 hm1)
 have HRb:=Zhd (fun(W:World) (hb:Below w.heap.size w W)=>Zbm A2 c2 b W (hR2.below hb) hc2 hm2)
 rw[hr1]at HRa;rw[hr2]at HRb;have HPa:=Zhd (fun(i:Nat) (hi:i<b.length) (W:World) (hb:Below w.heap.size w W)=>Zry A2 c2 b i W (hR2.below hb) hc2 hm2 hr2 hi)
 unfold Zpw at HPa;have HFi:=Zhd (fun(P:List ByteArray) (Ap:Option Addr) (cp:Nat) (W:World) (hb:Below w.heap.size w W) (hP:Rd W 1 Ap P.length (sv P)) (hcp:P.length≤cp) (hc:cp≤maxLen)=>Zca A1 c1 a Ap cp P W (hR1.below hb) hc1 hm1 hr1 hP hcp hc)
 have HPL:=Zhd (fun(i:Nat) (hi:i<b.length)=>pathB_lenR hr2 hi)
 have HPB:=Zhd (fun(i:Nat) (hi:i<b.length)=>Zkh (Zac hr2).2.1 hi)
 have HR1:=Zhd hR1;have HR2:=Zhd hR2;unfold maxLen at hm1 hm2;have HGl:Hid ((Zro a b).length≤200):=Yat (Zyf a.length 0) (by omega)
 clear hR1 hR2 hr1 hr2;go_enter func27,ntmps27;go_wp2_with fail;refine(HRa.out _ (Yag _ _)).mono ?_;rintro e w2 ⟨rfl,hb2⟩;go_wp2_with fail;refine(HRb.out _ hb2).mono ?_;rintro e w3 ⟨rfl,hb3⟩;have hb3w:=Zaa hb2 hb3;clear hb2 hb3 HRa HRb;go_wp2_with fail;refine(HG.out _ hb3w).mono ?_;rintro e w4 ⟨⟨v4,Q4,rfl,hQ4,hM4⟩,hb4⟩;have HQ4:=Zhd (show CRow w4 w.heap.size v4 Q4 from⟨World.ownsRow.mono hQ4.1 hb3w.size,hQ4.2⟩)
 have HB4:=Zhd (Zaa hb3w hb4);have HM4:=Zhd hM4;have hl4:Q4.length≤200:=by rw[←Yay (f:=CV.chg),HM4.out];exact HGl.out
 clear hQ4 hM4 hb4 hb3w HG HGl;have HFl:=Zhd (fun(P:List ByteArray) (k:Nat) (h:Zas a P=some k)=>Zcu h)
 go_wp2_with fail;go_loopw [6,7,27] (fun v6 v7 vi wr=> ∃ (i:Nat) (Q R:List CV),i≤b.length∧vi= .int .i64 i∧Q.length≤200+i∧R.length≤i∧Hid (CRow wr w.heap.size v6 Q)∧Hid (CRow wr w.heap.size v7 R)∧Hid (Q.map CV.chg=Zro a b++Zqw a b i)∧Hid (R.map CV.chg=Zpc a b i)∧Hid (Apt v7 v6)∧Hid (Below w.heap.size w wr)) (fun _ _ vi _=>b.length-(intOf vi).toNat)
 case atStart=>exact⟨0,Q4,[],Yas _,rfl,hl4,Yaf _,HQ4,Zhz _ _,by show _=_;rw[HM4.out];exact(Ybg _).symm,rfl,(Zbbi _).symm,HB4⟩
 case round=>
  clear HQ4 HM4 hl4 HB4;obtain⟨i,Q,R,hi',rfl,hQl,hRl,HQ,HR,HM,HM2,HAp,HB⟩:=hrel;obtain⟨Aq,cq,eq,-,-,-⟩:=Zbj HQ.out.1;obtain⟨Ar,cr,er,-,-,-⟩:=Zbj HR.out.1;subst eq er;by_cases hlt:i<b.length
  · have HP:=Zhd (HPa.out i hlt);have hpl:=HPL.out i hlt;have HA1:=Zhd (Zamq a b i);have HA2:=Zhd (Zaqm a b i);obtain⟨B,O,rfl,hab,hadd,x0,x1,x2⟩:=(HR2.out.below HB.out).line hlt;have HL:Hid (Zck b i=b[i]):=Zcd hlt;rw[HPB.out i hlt]at HP hpl;have hii:(i:Int)<(b.length:Int):=by omega
    unfold Zatp at HA1;unfold Zayk at HA2;rw[HL.out]at HA1 HA2;generalize pa b i=pp at *;generalize b[i]=ln at *;obtain⟨dp,wd,mk⟩:=ln;clear HL HPa HPL HPB;obtain⟨w5,hw5⟩: ∃ w5,wr.alloc (.cells #[.int .i64 dp, .string wd, .int .i64 mk] 62)=w5:=⟨_,rfl⟩;have HX:Hid (Bl w5 wr.heap.size #[.int .i64 dp, .string wd, .int .i64 mk] 62):=by rw[←hw5];exact Bl.new _ _ _
    have hb5:Below wr.heap.size wr w5:=by rw[←hw5];exact(Yag _ _).alloc (Yaf _) _
    have HQ5:=Zhd (HQ.out.below hb5);have HR5:=Zhd (HR.out.below hb5);have HB5:=Zhd (Zaa HB.out hb5);go_upto_region 8 with fail
    try rw[hw5]
    clear hw5 HQ HR HB hb5 x0 x1 x2;go_wp2_with fail;refine(HP.out w5 HB5.out).mono ?_;rintro e w6 ⟨v6,rfl,ho6,hb6⟩;obtain⟨A6,c6,e6,g1,g2,g3⟩:=Zbj ho6;subst e6;have HO6:Hid (POwn w6 (.slice A6 pp.length c6,pp)):=World.ownsRow.mono ho6 (Yas _);have HX6:=Zhd (HX.out.below hb6);have HQ6:=Zhd (HQ5.out.below hb6);have HR6:=Zhd (HR5.out.below hb6);have HB6:=Zhd (Zaa HB5.out hb6);have HF:=Zhd (HFi.out pp A6 c6 w6 HB6.out g3 g1 g2);clear ho6 hb6 HP HQ5 HR5 HB5 HX g1 g2 g3;go_wp2_with fail;refine HF.out.mono ?_;rintro e w7 ⟨rfl,hb7⟩;have HO7:=Zhd (HO6.out.below hb7);have HX7:=Zhd (HX6.out.below hb7);have HQ7:=Zhd (HQ6.out.below hb7);have HR7:=Zhd (HR6.out.below hb7);have HB7:=Zhd (Zaa HB6.out hb7);have y2:w7.cell? ⟨wr.heap.size,2,none⟩=some (.int .i64 mk):=(HX7.out.cell 2).trans rfl;clear hb7 HO6 HQ6 HR6 HX6 HB6 HF;cases hf:Zas a pp with
    | none=>
      rw[hf]at HA1 HA2
      have HMn:Hid (∀ v:Value,(Q++ [((2,(v,pp),mk):CV)]).map CV.chg=Zro a b++Zqw a b (i+1)):=fun v=>by
       rw[Ybv,HM.out,HA1.out,Ybc];rfl
      have HMo:Hid (R.map CV.chg=Zpc a b (i+1)):=by show _=_;rw[HM2.out,HA2.out];simp
      clear HA1 HA2 HM HM2 hf;go_wp2_with (at_builtin;refine Zamu rfl _ _ 45 rfl w w7 93 i0 _ 3 40 underlying45 hi hz0 hz1 hz2 rfl (by decide) (by decide) HQ7.out.1 HB7.out rfl 1 1 [.int .i64 2, .slice A6 pp.length c6, .int .i64 mk] rfl rfl (by intro u hu;simp only[Yav,Ybq,or_false]at hu;rcases hu with rfl|rfl|rfl<;>rfl) (by omega) HR7.out.1 HAp.out ?_;intro v8 w8 hown8 hb8 hk8 hoth8 hap8)
      have HQ8:Hid (CRow w8 w.heap.size v8 (Q++ [(2,(.slice A6 pp.length c6,pp),mk)])):=Zsx (x:=(2,(.slice A6 pp.length c6,pp),mk)) hown8 HQ7.out.2 HO7.out hk8;have HB8:=Zhd hb8;have HR8:Hid (CRow w8 w.heap.size (.slice Ar R.length cr) R):=⟨hoth8,fun x hx=>Zji (HR7.out.2 x hx) hk8⟩
      have HA8:=Zhd hap8;clear hown8 hb8 hk8 hoth8 hap8;go_wp2_with fail;go_roundw
      case rel=>exact⟨i+1,_,R,by omega,by go_num,by rw[Yae,Ybz];omega,by omega,HQ8,HR8,HMn.out _,HMo,HA8,HB8⟩
      case measure=>simp[intOf];omega
    | some k=>
      rw[hf]at HA1 HA2;have hk:=HFl.out _ _ hf;have hki:(k:Int)<(a.length:Int):=by omega
      obtain⟨B1,O1,rfl,hab1,hadd1,-,-,z2⟩:=(HR1.out.below HB7.out).line hk;have HLa:Hid (Zck a k=a[k]):=Zcd hk;rw[show Zrd (some k)=(k:Int)from rfl];have HA2:=HA2;simp only at HA2;rw[HLa.out]at HA2;generalize a[k]=la at *;obtain⟨dq,wq,mq⟩:=la;have HMn:Hid (Q.map CV.chg=Zro a b++Zqw a b (i+1)):=by show _=_;rw[HM.out,HA1.out];simp
      have mixed:prog.follows .mixedOrders=true:=by kernel_rfl
      have y2':=y2;by_cases hm:mq=mk
      · subst hm;have HMo:Hid (R.map CV.chg=Zpc a b (i+1)):=by show _=_;rw[HM2.out,HA2.out];simp
        have hmm:(mq !=mq)=false:=bne_self_eq_false mq;clear HA1 HA2 HM HM2 hf HLa;go_wp2_with fail;go_region_held3 (fun W=>W.cell? ⟨B1,O1+k*3+2,none⟩=some (.int .i64 mq)∧W.cell? ⟨wr.heap.size,2,none⟩=some (.int .i64 mq)) (go_keep) ((fail))
        go_wp2_with fail;go_roundw
        case rel=>exact⟨i+1,Q,R,by omega,by go_num,by omega,by omega,HQ7.out.below (Yag _ _).drew,HR7.out.below (Yag _ _).drew,HMn,HMo,HAp,HB7.out.drew⟩
        case measure=>simp[intOf];omega
      · have hmm:(mq !=mk)=true:=by rw[bne_iff_ne];exact hm
        have HMo:Hid (∀ v:Value,(R++ [((3,(v,pp),mk):CV)]).map CV.chg=Zpc a b (i+1)):=fun v=>by
         rw[Ybv,HM2.out,HA2.out,Yab hm];rfl
        clear HA1 HA2 HM HM2 hf HLa hm;go_wp2_with fail;go_region_held3 (fun W=>W.cell? ⟨B1,O1+k*3+2,none⟩=some (.int .i64 mq)∧W.cell? ⟨wr.heap.size,2,none⟩=some (.int .i64 mk)) (go_keep) ((fail))
        obtain⟨wd7,hwd7⟩: ∃ x,w7.drew=x:=⟨_,rfl⟩;have HQd:=Zhd (show CRow wd7 _ _ _ from hwd7▸HQ7.out.below (Yag _ _).drew)
        have HRd:=Zhd (show CRow wd7 _ _ _ from hwd7▸HR7.out.below (Yag _ _).drew)
        have HOd:=Zhd (show POwn wd7 _ from hwd7▸HO7.out.below (Yag _ _).drew)
        have HBd:=Zhd (show Below _ _ wd7 from hwd7▸HB7.out.drew)
        have y3:wd7.cell? ⟨wr.heap.size,2,none⟩=some (.int .i64 mk):=by rw[←hwd7];simpa using y2
        try rw[hwd7]
        clear hwd7 y2 y2' HQ7 HR7 HO7 HB7 z2;go_wp2_with (at_builtin;refine Zamu rfl _ _ 45 rfl w wd7 93 i0 _ 3 40 underlying45 hi hz0 hz1 hz2 rfl (by decide) (by decide) HRd.out.1 HBd.out rfl 1 1 [.int .i64 3, .slice A6 pp.length c6, .int .i64 mk] rfl rfl (by intro u hu;simp only[Yav,Ybq,or_false]at hu;rcases hu with rfl|rfl|rfl<;>rfl) (by omega) HQd.out.1 HAp.out.symm ?_;intro v8 w8 hown8 hb8 hk8 hoth8 hap8)
        have HR8:Hid (CRow w8 w.heap.size v8 (R++ [(3,(.slice A6 pp.length c6,pp),mk)])):=Zsx (x:=(3,(.slice A6 pp.length c6,pp),mk)) hown8 HRd.out.2 HOd.out hk8;have HB8:=Zhd hb8;have HQ8:Hid (CRow w8 w.heap.size (.slice Aq Q.length cq) Q):=⟨hoth8,fun x hx=>Zji (HQd.out.2 x hx) hk8⟩
        have HA8:=Zhd hap8.symm;clear hown8 hb8 hk8 hoth8 hap8;go_wp2_with fail;go_roundw
        case rel=>exact⟨i+1,Q,_,by omega,by go_num,by omega,by rw[Yae,Ybz];omega,HQ8,HR8,HMn,HMo.out _,HA8,HB8⟩
        case measure=>simp[intOf];omega
  · obtain rfl:i=b.length:=by omega
    have HE:Hid ((Q++R).map CV.chg=Zajt a b):=by show _=_;rw[Ybv,HM.out,HM2.out];rfl
    obtain⟨hRd,hnil⟩:=Zqs HR.out.1
    have hcl: ∀ u∈cvc R,u.oneCell'=true:=fun u hu=>by
     unfold cvc at hu;obtain⟨q,hq,hu⟩:=Ydk.1 hu;simp only[Yav,Ybq,or_false]at hu;rcases hu with rfl|rfl|rfl
     · rfl
     · exact(HR.out.2 q hq).cell
     · rfl
    have HRd:=Zhd hRd;have HNil:=Zhd hnil;have HCl:=Zhd hcl;clear hRd hnil hcl;go_wp2_with (at_builtin;refine Zbbh rfl _ _ 45 rfl w.heap.size wr 93 i0 _ 3 40 underlying45 hi hz0 hz1 hz2 rfl (by decide) (by decide) HQ.out.1 HB.out.size rfl Ar R.length cr (cvc R) rfl HRd.out HNil.out HCl.out (by omega) ?_;intro v8 w8 hown8 hb8 hk8)
    have HQ8:Hid (CRow w8 w.heap.size v8 (Q++R)):=⟨by rw[Zann,Yae];exact hown8,fun x hx=>(Ybn.1 hx).elim (fun hx=>Zji (HQ.out.2 x hx) hk8) (fun hx=>Zji (HR.out.2 x hx) hk8)⟩
    have HB8:=Zhd (HB.out.trans hb8);obtain⟨A8,c8,e8,-,-,-⟩:=Zbj HQ8.out.1;subst e8;clear hown8 hb8 hk8 HRd HNil HCl;go_wp2_with fail;exact bodyPost_ret (v:= .tuple #[.slice A8 (Q++R).length c8, .int .i64 0]) (by simp[results,results27,go_sem]) rfl ⟨⟨_,Q++R,rfl,HQ8.out,HE.out⟩,HB8.out⟩
end Go.Proofs.Zq
namespace Edt
open Go Go.Lib Tre Sch Lns
def Zadm (S:Ps) (who:Int):List Chg:=if 0≤who∧who<3∧(S.ses who.toNat).opn=true then Zajt S.run (S.ses who.toNat).mine else []
theorem Zadn {S:Ps} {who:Int} (h: ¬ (0≤who∧who<3∧(S.ses who.toNat).opn=true)):Zadm S who= []:=by unfold Zadm;rw[Yab h]
theorem Zagg {S:Ps} {k:Nat} (hk:k<3) (h:(S.ses k).opn=true):Zadm S (k:Int)=Zajt S.run (S.ses k).mine:=by
 unfold Zadm;rw[Ybr,Yam ⟨by omega,by omega,h⟩]
end Edt
namespace Go.Proofs.Zq
open Tryz
open Go Go.RowKit Go.Sort Tre Lx Prs Lns Edt Sch
theorem Zsu (C:Array Value) (S:Ps) (who:Int) (w:World) (hP:PlC w C S) (h3:Zab S.run=true) (h2: ∀ k,k<3→Zab (S.ses k).mine=true):
 Calls prog 14 #[.agg C, .int .i64 who] w fun e w'=>(∃ v Q,e= .returned v∧CRow w' w.heap.size v Q∧Q.map CV.chg=Zadm S who)∧Below w.heap.size w w':=by
 obtain⟨wr,hwr⟩: ∃ wr,w.alloc (.cells C 32)=wr:=⟨_,rfl⟩;have hs1:w.heap.size<wr.heap.size:=by rw[←hwr];simp
 have Bp:Bl wr w.heap.size C 32:=by rw[←hwr];exact Bl.new _ _ _
 have HB:Hid (Below w.heap.size w wr):=by show Below _ _ _;rw[←hwr];exact(Yag _ _).alloc (Yaf _) _
 by_cases c1:who<0
 · have HN:=Zhd (Zadn (S:=S) (who:=who) (fun h=>by omega))
   go_enter func14,ntmps14;go_wp2_with fail;go_ret
   first|exact⟨⟨_,[],rfl,Zhz _ _,HN.out.symm⟩,HB.out⟩|exact⟨⟨_,rfl,[],Zhz _ _,HN.out.symm⟩,HB.out⟩
 by_cases c2:3≤who
 · have HN:=Zhd (Zadn (S:=S) (who:=who) (fun h=>by omega))
   go_enter func14,ntmps14;go_wp2_with fail;go_ret
   first|exact⟨⟨_,[],rfl,Zhz _ _,HN.out.symm⟩,HB.out⟩|exact⟨⟨_,rfl,[],Zhz _ _,HN.out.symm⟩,HB.out⟩
 obtain⟨k,rfl⟩: ∃ k:Nat,who=(k:Int):=⟨who.toNat,by omega⟩
 have hk:k<3:=by omega
 have hki:(k:Int)<3:=by omega
 have hk0:(0:Int)≤(k:Int):=by omega
 have px0:wr.cell? ⟨w.heap.size,2+k*3,none⟩=some (.bool (S.ses k).opn):=(Bp.cell _).trans (hP.opn k hk);clear c1 c2;cases ho:(S.ses k).opn with
 | false=>
   have HN:=Zhd (Zadn (S:=S) (who:=(k:Int)) (fun h=>by rw[Ybr,ho]at h;cases h.2.2))
   rw[ho]at px0;go_enter func14,ntmps14;go_wp2_with fail;go_ret
   first|exact⟨⟨_,[],rfl,Zhz _ _,HN.out.symm⟩,HB.out⟩|exact⟨⟨_,rfl,[],Zhz _ _,HN.out.symm⟩,HB.out⟩
 | true=>
   have HN:=Zhd (Zagg hk ho);rw[ho]at px0;obtain⟨v0,e0,hl0⟩:=hP.run;obtain⟨v2,e2,hl2⟩:=hP.mine k hk;obtain⟨A0,n0,c0,rfl⟩:=hl0.slice;obtain⟨A2,n2,c2,rfl⟩:=hl2.slice;have HK:Hid (∀ W,Below wr.heap.size wr W→W.cell? ⟨w.heap.size,0,none⟩=some (.slice A0 n0 c0)∧W.cell? ⟨w.heap.size,2+k*3+2,none⟩=some (.slice A2 n2 c2)):=fun W hb=>⟨((Bp.below hb).cell _).trans e0,((Bp.below hb).cell _).trans e2⟩
   have HD:=Zhd (fun(W:World) (hb:Below wr.heap.size wr W)=>Zawf _ _ S.run (S.ses k).mine W (hl0.below (Zaa HB.out hb)) (hl2.below (Zaa HB.out hb)) h3 (h2 k hk))
   have HA:=Zhd (Yag wr.heap.size wr).drew;have mixed:prog.follows .mixedOrders=true:=by kernel_rfl
   clear hl0 hl2 e0 e2 h2 h3 ho hP Bp;go_enter func14,ntmps14;go_wp2_with fail;go_region_held3 (fun W=>W.cell? ⟨w.heap.size,0,none⟩=some (.slice A0 n0 c0)∧W.cell? ⟨w.heap.size,2+k*3+2,none⟩=some (.slice A2 n2 c2)) (first|exact HK.out _ HB5.out|exact HK.out _ HA.out) (first|(go_at_call 27;refine(HD.out _ HA.out).mono ?_;rintro e w5 ⟨⟨v5,Q5,rfl,hQ5,hM5⟩,hb5⟩;have HQ5:=Zhd (show CRow w5 w.heap.size v5 Q5 from⟨World.ownsRow.mono hQ5.1 (Zaa HB.out HA.out).size,hQ5.2⟩);have HB5:=Zhd (Zaa HA.out hb5);have HM5:=Zhd hM5;clear hQ5 hM5 hb5))
   obtain⟨A5,c5,e5,-,-,-⟩:=Zbj HQ5.out.1;subst e5;go_wp2_with fail;go_ret;exact⟨⟨_,Q5,rfl,HQ5.out,by rw[HM5.out,HN.out]⟩,Zaa HB.out HB5.out⟩
open Go.ChangeShapes Go.WideShapes Go.Deep
structure OpM where
 o:Opp
 who:Int
 A:Option Addr
 c:Nat
def OpM.cells (x:OpM):List Value:= [.int .i64 x.o.kind, .int .i64 x.who, .slice x.A x.o.path.length x.c, .string x.o.word, .int .i64 x.o.bit, .int .i64 x.o.n, .string x.o.text]
def opcs (L:List OpM):List Value:=L.flatMap OpM.cells
theorem Zhm (L:List OpM):(opcs L).length=L.length*7:=by
 unfold opcs
 induction L with
 |nil=>rfl
 |cons x L ih=>rw[Ybl,Yae,ih,Ybd,Nat.add_mul];simp[OpM.cells];omega
theorem Zyx (L:List OpM) (i j:Nat) (hi:i<L.length) (hj:j<7):(opcs L)[i*7+j]?=(L[i].cells)[j]?:=by
 unfold opcs
 induction L generalizing i with
 |nil=>simp at hi
 | cons x L ih=>
   have he:x.cells.length=7:=rfl;cases i with
   |zero=>rw[Ybl,Ych (by rw[he];omega)];simp
   | succ i=>
     rw[Ybl,Ybm (by rw[he];omega),show(i+1)*7+j-x.cells.length=i*7+j by rw[he];omega]
     simpa using ih i (by simpa using hi)
def OpM.Ok (w:World) (x:OpM):Prop:=Rd w 1 x.A x.o.path.length (sv x.o.path)∧x.o.path.length≤x.c∧x.c≤maxLen∧ -9223372036854775808≤x.o.n∧x.o.n≤9223372036854775807
theorem OpM.Ok.below {w w':World} {x:OpM} (h:x.Ok w) (hb:Below w.heap.size w w'):x.Ok w':=⟨h.1.below hb,h.2⟩
def Ops (w:World) (A:Option Addr) (L:List OpM):Prop:=Rd w 7 A L.length (opcs L)∧ ∀ x∈L,x.Ok w
theorem Ops.below {w w':World} {A:Option Addr} {L:List OpM} (h:Ops w A L) (hb:Below w.heap.size w w'):Ops w' A L:=⟨h.1.below hb,fun x hx=>(h.2 x hx).below hb⟩
section
variable {H:Type} {enc:TypeId×Value→H} {P:Program} {w:World} {base:Nat} {spare:Nat→Bool} {held:Bool}
theorem Zawn {e:TypeId} {fs:Array Field} {n:Nat} {b:Addr} {x:DataW H×List MemPlace} {cs:List Value} (he:P.underlying e=some (.struct fs)) (hone:oneCellFields P fs=true) (hC:P.cellsOf e=fs.size)
 (hc:w.cells? base b (P.cellsOf e)=some cs) (ht:DataW.trod enc P w base spare held n e cs=some x) (j:Nat) (f:Field) (hj:fs[j]?=some f):
 ∃ v y m,w.cell? (b.add j)=some v∧DataW.trod enc P w base spare held m f.type [v]=some y:=by
 obtain⟨ys,m,-,-,-,hyl,hf⟩:=DataW.trod_struct he ht;obtain⟨-,hl,hat⟩:=World.cells?_some hc;obtain⟨ho,hk⟩:=hone_of hone j f hj;have hjs:j<fs.size:=(Ybf.1 hj).1;have hjc:j<cs.length:=by omega
 have hd:(cs.drop j).take 1= [cs[j]]:=by rw[Yaz hjc];rfl
 have h1:=hf j f hj;rw[ho,hk,hd]at h1;exact⟨cs[j],ys[j]'(by omega),m,(hat j (by omega)).trans (Yaj hjc),h1.trans (Yaj (by omega))⟩
theorem Zbdt {t e:TypeId} {n:Nat} {v:Value} {y:DataW H×List MemPlace} (ht:P.underlying t=some (.slice e)) (he:P.underlying e=some .string) (hC:P.cellsOf e=1) (h:DataW.trod enc P w base spare held n t [v]=some y):
 ∃ (A:Option Addr) (cap:Nat) (L:List ByteArray),v= .slice A L.length cap∧L.length≤cap∧cap≤maxLen∧Rd w 1 A L.length (sv L):=by
 rcases open_slice1 ht hC h with⟨hcs,-⟩|⟨a,len,cap,m,n,V,D,Pl,hcs,-,hl,hm,hmm,-,hi⟩
 · injection hcs with hcs
   exact⟨none,0,[],hcs,Yaf _,by unfold maxLen;omega,Rd.nil⟩
 · injection hcs with hcs
   have hlm:len≤m:=by rw[hmm];split<;>omega
   have each: ∀ i,∃ x:ByteArray,i<len→w.cell? (a.add i)=some (.string x):=by
    intro i;by_cases hlt:i<len
    · obtain⟨h1,h2⟩:=hi i (by omega)
      obtain⟨s1,e1,-⟩:=DataW.trod_string he h2;injection e1 with e1
      exact⟨s1,fun _=>by rw[h1,e1]⟩
    · exact⟨⟨#[]⟩,fun h=>absurd h hlt⟩
   obtain⟨f,hfx⟩:=Classical.axiomOfChoice each;refine⟨some a,cap,(List.range len).map f,by rw[hcs];simp,by simpa using hl,hm,by rw[Zie,Nat.mul_one],fun hn=> ?_⟩
   have hn':0<len:=by simpa using hn
   refine⟨a,rfl,Lib.lt_of_cell (a:=a) (by have:=hfx 0 hn';simpa[Addr.add]using this),fun j u hu=> ?_⟩
   have hj:j<len:=by
    have:=(Ybb.1 hu).1;rw[Zie]at this;simpa using this
   rw[Zks (by simpa using hj)]at hu
   rw[←hu,hfx j hj];simp
theorem open_ops {r:Reach} {b0:Nat} {t e tp:TypeId} {f0 f1 f2 f3 f4 f5 f6:Field} {v:Value} {d:DataW H} {p:List MemPlace} (ht:P.underlying t=some (.slice e)) (he:P.underlying e=some (.struct #[f0,f1,f2,f3,f4,f5,f6]))
 (hone:oneCellFields P #[f0,f1,f2,f3,f4,f5,f6]=true) (hC:P.cellsOf e=7) (u0:P.underlying f0.type=some (.int .i64)) (u1:P.underlying f1.type=some (.int .i64)) (u2:P.underlying f2.type=some (.slice tp)) (u3:P.underlying f3.type=some .string) (u4:P.underlying f4.type=some (.int .i64)) (u5:P.underlying f5.type=some (.int .i64)) (u6:P.underlying f6.type=some .string)
 (us:P.underlying tp=some .string) (uc:P.cellsOf tp=1) (hv:Value.okWide P w r b0 t v) (h:DataW.Trod enc P w base spare held t v d p):
 ∃ (A:Option Addr) (cap:Nat) (L:List OpM),v= .slice A L.length cap∧L.length≤cap∧cap≤maxLen∧Ops w A L:=by
 obtain⟨a0,len,cap,rfl⟩:=okWide_slice ht hv;obtain⟨fuel,hf⟩:=h;rcases open_slice ht hf with⟨hcs,-⟩|⟨a,len',cap',m,n,D,Pl,hcs,-,hl,hm,hmm,-,hi⟩
 · simp[Value.cells]at hcs;obtain⟨rfl,rfl,rfl⟩:=hcs;exact⟨none,0,[],rfl,Yaf _,by unfold maxLen;omega,Rd.nil,fun x hx=>by cases hx⟩
 · simp[Value.cells]at hcs;obtain⟨rfl,rfl,rfl⟩:=hcs;have hlm:len≤m:=by rw[hmm];split<;>omega
   have each: ∀ i,∃ x:OpM,i<len→x.Ok w∧ ∀ j,j<7→w.cell? (a.add (i*7+j))=(x.cells)[j]?:=by
    intro i;by_cases hlt:i<len
    · obtain⟨cs,hc,htr⟩:=hi i (by omega)
      have F:=Zawn he hone hC hc htr;obtain⟨v0,y0,m0,c0,t0⟩:=F 0 f0 rfl;obtain⟨v1,y1,m1,c1,t1⟩:=F 1 f1 rfl;obtain⟨v2,y2,m2,c2,t2⟩:=F 2 f2 rfl;obtain⟨v3,y3,m3,c3,t3⟩:=F 3 f3 rfl;obtain⟨v4,y4,m4,c4,t4⟩:=F 4 f4 rfl;obtain⟨v5,y5,m5,c5,t5⟩:=F 5 f5 rfl;obtain⟨v6,y6,m6,c6,t6⟩:=F 6 f6 rfl;obtain⟨k0,e0,-⟩:=DataW.trod_int u0 t0;obtain⟨k1,e1,-⟩:=DataW.trod_int u1 t1;obtain⟨A2,q2,P2,e2,p1,p2,p3⟩:=Zbdt u2 us uc t2;obtain⟨s3,e3,-⟩:=DataW.trod_string u3 t3;obtain⟨k4,e4,-⟩:=DataW.trod_int u4 t4;obtain⟨k5,e5,-,wf⟩:=DataW.trod_int u5 t5;obtain⟨s6,e6,-⟩:=DataW.trod_string u6 t6;injection e0 with e0
      injection e1 with e1
      injection e3 with e3
      injection e4 with e4
      injection e5 with e5
      injection e6 with e6
      subst e0 e1 e2 e3 e4 e5 e6;rw[Zamp,hC]at c0 c1 c2 c3 c4 c5 c6;have hb: -9223372036854775808≤k5∧k5≤9223372036854775807:=by
       unfold Lit.wf at wf;rw[Yaq,Yao,Yao,show IntKind.i64.min= -9223372036854775808 by decide,show IntKind.i64.max=9223372036854775807 by decide]at wf
       exact wf
      refine⟨⟨⟨k0,P2,s3,k4,k5,s6⟩,k1,A2,q2⟩,fun _=>⟨⟨p3,p1,p2,hb.1,hb.2⟩,fun j hj=> ?_⟩⟩
      match j,hj with
      |0,_=>exact c0
      |1,_=>exact c1
      |2,_=>exact c2
      |3,_=>exact c3
      |4,_=>exact c4
      |5,_=>exact c5
      |6,_=>exact c6
    · exact⟨⟨⟨0,[],⟨#[]⟩,0,0,⟨#[]⟩⟩,0,none,0⟩,fun h=>absurd h hlt⟩
   obtain⟨f,hfx⟩:=Classical.axiomOfChoice each;refine⟨some a,cap,(List.range len).map f,by simp,by simpa using hl,hm,⟨by rw[Zhm],fun hn=> ?_⟩,fun x hx=> ?_⟩
   · have hn':0<len:=by simpa using hn
     refine⟨a,rfl,Lib.lt_of_cell (a:=a) (by have:=(hfx 0 hn').2 0 (by decide);simpa[Addr.add,OpM.cells]using this),fun j u hu=> ?_⟩
     have hj:j<((List.range len).map f).length*7:=by
      have:=(Ybb.1 hu).1
      rwa [Zhm]at this
     have hj':j<len*7:=by simpa using hj
     obtain⟨i,q,rfl,hq⟩: ∃ i q,j=i*7+q∧q<7:=⟨j/7,j%7,by omega,by omega⟩
     have hil:i<len:=by omega
     rw[Zyx _ i q (by simpa using hil) hq]at hu
     simp only[Ycz,List.getElem_range]at hu;rw[←hu];exact(hfx i hil).2 q hq
   · obtain⟨i,hi,rfl⟩:=Yct.1 hx;exact(hfx i (Ycm.1 hi)).1
end
def opA (kind n:Int) (text:ByteArray):Opp:=⟨kind,[],⟨#[]⟩,0,n,text⟩
def awS1:Ps:=(doS Zeo (opA 1 0 ⟨#[]⟩) 0).1
def awS2:Ps:=(doS awS1 (opA 11 0 ⟨#[104,111,115,116,115,59]⟩) 0).1
def awS3:Ps:=(doS awS2 (opA 14 5 ⟨#[]⟩) 0).1
def awS4:Ps:=(doS awS3 (opA 15 5 ⟨#[]⟩) 0).1
theorem aw_1:(doS Zeo (opA 1 0 ⟨#[]⟩) 0).2.1=0:=by decide+kernel
theorem aw_2:(doS awS1 (opA 11 0 ⟨#[104,111,115,116,115,59]⟩) 0).2.1=0:=by decide+kernel
theorem aw_3:(doS awS2 (opA 14 5 ⟨#[]⟩) 0).2.1=0:=by decide+kernel
theorem aw_4:awS3.run.length=1:=by decide+kernel
theorem aw_5:(doS awS3 (opA 15 5 ⟨#[]⟩) 0).2.2=2:=by decide+kernel
theorem aw_6:awS4.run.length=0:=by decide+kernel
theorem aw_7:Zbl awS4=2:=by decide+kernel
theorem aw_8:(doS awS4 (opA 11 0 ⟨#[97,32,98]⟩) 0).2=(2,2):=by decide+kernel
theorem aw_9:(doS awS4 (opA 3 0 ⟨#[]⟩) 1).2.1=3:=by decide+kernel
theorem aw_a:(Zadm awS4 0).length=1:=by decide+kernel
def opsA:List OpM:= [⟨opA 1 0 ⟨#[]⟩,0,none,0⟩,⟨opA 11 0 ⟨#[104,111,115,116,115,59]⟩,0,none,0⟩,⟨opA 14 5 ⟨#[]⟩,0,none,0⟩]
attribute [local irreducible] doS
def awS:Nat→Ps
 |0=>Zeo
 |1=>awS1
 |2=>awS2
 |_=>awS3
theorem Zagc: ∀ k (h:k<3),awS (k+1)=(doS (awS k) opsA[k].o opsA[k].who).1
 |0,_=>rfl
 |1,_=>rfl
 |2,_=>rfl
theorem Zbbk: ∀ k (h:k<3),(doS (awS k) opsA[k].o opsA[k].who).2.1=0
 |0,_=>aw_1
 |1,_=>aw_2
 |2,_=>aw_3
theorem Zagb: ∀ k:Nat,k≤3→PsOk (k:Int) (awS k)
 |0,_=>Zom
 | k+1,h=>by
   rw[Zagc k h];have:=(Zlf (Zagb k (by omega)) opsA[k].o opsA[k].who).1
   exact this
theorem Zsj:PsOk 4 awS4:=(Zlf (Zagb 3 (by decide)) (opA 15 5 ⟨#[]⟩) 0).1
theorem Zbdb (w:World): ∀ x∈opsA,x.Ok w:=by
 intro x hx;have:x.A=none∧x.o.path= []∧x.c=0∧ -9223372036854775808≤x.o.n∧x.o.n≤9223372036854775807:=by
  simp only[opsA,Yav,Ybq,or_false]at hx;rcases hx with rfl|rfl|rfl<;>exact⟨rfl,rfl,rfl,by decide,by decide⟩
 obtain⟨h1,h2,h3,h4⟩:=this;refine⟨?_, ?_, ?_,h4⟩
 · rw[h2];exact Rd.nil
 · rw[h2];exact Yas _
 · rw[h3];exact Yas _
theorem Zayi {W:World} {b:Nat} {T:TypeId} (h:Bl W b (opcs opsA).toArray T):Ops W (some ⟨b,0,none⟩) opsA:=by
 refine⟨⟨?_,fun _=>⟨_,rfl,h.lt,fun j v hv=> ?_⟩⟩,Zbdb W⟩
 · rfl
 · have h1:=h.cell j;rw[Ycw,hv]at h1;rw[Zag,Ybi];exact h1
end Go.Proofs.Zq
namespace Edt
open Go Go.Lib Tre Sch Lns Go.Proofs.Zq
def opOk (o:Opp):Bool:=Zjm o.path&&decide (o.word.size≤100)&&decide (o.text.size≤400)
def fewO (L:List OpM) (most:Nat):Int:=if(L.take most).all (fun x=>opOk x.o)then((min L.length most:Nat):Int)else -1
theorem Zawl {L:List OpM} {m:Nat} (h:fewO L m<0):fewO L m= -1:=by
 unfold fewO at h⊢;split
 · rename_i h1;rw[Yam h1]at h;omega
 · rfl
theorem Zawm {L:List OpM} {m:Nat} (h: ¬ fewO L m<0):fewO L m=((min L.length m:Nat):Int)∧ ∀ x∈L.take m,opOk x.o=true:=by
 unfold fewO at h⊢;split
 · rename_i h1;exact⟨rfl,fun x hx=>Ybt.1 h1 x hx⟩
 · rename_i h1;rw[Yab h1]at h;exact absurd (by decide) h
end Edt
namespace Go.Proofs.Zq
open Tryz
open Go Go.RowKit Go.Sort Tre Edt
theorem Zzf {a b:Int} (h:a=b):Ending.returned (.int .i64 b)= .returned (.int .i64 a):=by rw[h]
theorem Ops.at {w:World} {A:Option Addr} {L:List OpM} (h:Ops w A L) {k:Nat} (hk:k<L.length): ∃ b o,A=some ⟨b,o,none⟩∧b<w.heap.size∧ ∀ j,j<7→w.cell? ⟨b,o+k*7+j,none⟩=(L[k].cells)[j]?:=by
 obtain⟨ad,e,hb,hx⟩:=h.1.2 (by omega)
 have hl:(opcs L).length=L.length*7:=Zhm L;have hsp:ad.spot=none:=by
  have h0:=hx 0 _ (show(opcs L)[0]?=some _ from(Zyx L 0 0 (by omega) (by decide)).trans rfl)
  have h2:=World.cell?_spot h0;have h3:ad.add 0=ad:=by simp[Addr.add]
  rwa [h3]at h2
 obtain⟨b,o,sp⟩:=ad;obtain rfl:sp=none:=hsp;refine⟨b,o,e,hb,fun j hj=> ?_⟩
 have hg:=Zyx L k j hk hj;have hs: ∃ u,(L[k].cells)[j]?=some u:=⟨_,Yaj (show j<L[k].cells.length from hj)⟩
 obtain⟨u,hu⟩:=hs;have:=hx (k*7+j) u (hg.trans hu);rw[Zag]at this;rw[hu,←this,Ydn]
theorem Zawk (A:Option Addr) (c:Nat) (L:List OpM) (most:Nat) (w:World) (hO:Ops w A L) (hc:L.length≤c) (hm:c≤maxLen) (h1000:most≤1000):
 Calls prog 8 #[.slice A L.length c, .int .i64 (most:Nat)] w fun e w'=>e= .returned (.int .i64 (fewO L most))∧Below w.heap.size w w':=by
 unfold maxLen at hm;have HO:=Zhd hO;obtain⟨n,hn⟩: ∃ n,min L.length most=n:=⟨_,rfl⟩;have hnl:n≤L.length:=by omega
 have hmin:min (L.length:Int) (most:Int)=(n:Int):=by omega
 have HX:Hid (fewO L most=if(L.take n).all (fun x=>opOk x.o)then(n:Int)else -1):=by
  show _=_;unfold fewO;rw[hn,←hn,show L.take (min L.length most)=L.take most by rw[List.take_eq_take_iff];omega]
 have hn0:(0:Int)≤(n:Int):=by omega
 have hnI:(n:Int)≤(L.length:Int):=by omega
 have hcI:(L.length:Int)≤(c:Int):=by omega
 clear hO hn;go_enter func8,ntmps8;go_wp2_with fail;go_loopw [16] (fun vk W=> ∃ k:Nat,k≤n∧vk= .int .i64 k∧Hid (fewO L most=if((L.take n).drop k).all (fun x=>opOk x.o)then(n:Int)else -1)∧Hid (Below w.heap.size w W)) (fun vk _=>n-(intOf vk).toNat)
 case atStart=>exact⟨0,Yas _,rfl,HX,Yag _ _⟩
 case round=>
  clear HX;obtain⟨k,hk,rfl,HQ,HB⟩:=hrel;by_cases hlt:k<n
  · have hkl:k<L.length:=by omega
    obtain⟨b,o,rfl,hb,hx⟩:=(HO.out.below HB.out).at hkl;have hok:=(HO.out.below HB.out).2 L[k] (Yaw hkl)
    have hst:Hid (fewO L most=if(opOk L[k].o&&((L.take n).drop (k+1)).all (fun x=>opOk x.o))=true then(n:Int)else -1):=by
     show _=_;rw[HQ.out,Yaz (by rw[Yah];omega),Ydd,Ycs]
    generalize L[k]=x at *;obtain⟨⟨kd,pp,wd,bt,nn,tx⟩,who,Ap,cp⟩:=x;obtain⟨hp1,hp2,hp3,-⟩:=hok;have x0:wr.cell? ⟨b,o+k*7,none⟩=some (.int .i64 kd):=hx 0 (by decide)
    have x1:wr.cell? ⟨b,o+k*7+1,none⟩=some (.int .i64 who):=hx 1 (by decide)
    have x2:wr.cell? ⟨b,o+k*7+2,none⟩=some (.slice Ap pp.length cp):=hx 2 (by decide)
    have x3:wr.cell? ⟨b,o+k*7+3,none⟩=some (.string wd):=hx 3 (by decide)
    have x4:wr.cell? ⟨b,o+k*7+4,none⟩=some (.int .i64 bt):=hx 4 (by decide)
    have x5:wr.cell? ⟨b,o+k*7+5,none⟩=some (.int .i64 nn):=hx 5 (by decide)
    have x6:wr.cell? ⟨b,o+k*7+6,none⟩=some (.string tx):=hx 6 (by decide)
    obtain⟨w5,hw5⟩: ∃ x,wr.alloc (.cells #[.int .i64 kd, .int .i64 who, .slice Ap pp.length cp, .string wd, .int .i64 bt, .int .i64 nn, .string tx] 36)=x:=⟨_,rfl⟩;have hb5:Below wr.heap.size wr w5:=by rw[←hw5];exact(Yag _ _).alloc (Yaf _) _
    have HX5:Hid (Bl w5 wr.heap.size #[.int .i64 kd, .int .i64 who, .slice Ap pp.length cp, .string wd, .int .i64 bt, .int .i64 nn, .string tx] 36):=by show Bl _ _ _ _;rw[←hw5];exact Bl.new _ _ _
    have HB5:=Zhd (Zaa HB.out hb5);have HS:=Zhd (Zasa Ap cp pp w5 (hp1.below hb5) hp2 hp3);have y2:w5.cell? ⟨wr.heap.size,2,none⟩=some (.slice Ap pp.length cp):=(HX5.out.cell 2).trans rfl;have hki:(k:Int)<(n:Int):=by omega
    clear hp1 hx hb5 HQ;cases hs:Zjm pp with
    | false=>
      rw[hs]at HS;have HN:Hid (fewO L most= -1):=by show _=_;rw[hst.out,Yab (by unfold opOk;simp only;rw[hs];simp)]
      clear hst hs;go_wp2_with fail;refine HS.out.mono ?_;rintro e w6 ⟨rfl,hb6⟩;have HB6:=Zhd (Zaa HB5.out hb6);clear hb6;go_wp2_with fail;go_ret;exact⟨Zzf HN.out,HB6.out⟩
    | true =>
      rw[hs]at HS;by_cases h1:100<wd.size
      · have HN:Hid (fewO L most= -1):=by show _=_;rw[hst.out,Yab (by unfold opOk;simp only;rw[Yai (show ¬ wd.size≤100 by omega)];simp)]
        have h1I:(100:Int)<(wd.size:Int):=by omega
        clear hst hs;go_wp2_with fail;refine HS.out.mono ?_;rintro e w6 ⟨rfl,hb6⟩;have y3:w6.cell? ⟨wr.heap.size,3,none⟩=some (.string wd):=((HX5.out.below hb6).cell 3).trans rfl;have HB6:=Zhd (Zaa HB5.out hb6);clear hb6;go_wp2_with fail;go_ret;exact⟨Zzf HN.out,HB6.out⟩
      · have h1I: ¬ (100:Int)<(wd.size:Int):=by omega
        by_cases h2:400<tx.size
        · have HN:Hid (fewO L most= -1):=by show _=_;rw[hst.out,Yab (by unfold opOk;simp only;rw[Yai (show ¬ tx.size≤400 by omega)];simp)]
          have h2I:(400:Int)<(tx.size:Int):=by omega
          clear hst hs;go_wp2_with fail;refine HS.out.mono ?_;rintro e w6 ⟨rfl,hb6⟩;have y3:w6.cell? ⟨wr.heap.size,3,none⟩=some (.string wd):=((HX5.out.below hb6).cell 3).trans rfl;have y6:w6.cell? ⟨wr.heap.size,6,none⟩=some (.string tx):=((HX5.out.below hb6).cell 6).trans rfl;have HB6:=Zhd (Zaa HB5.out hb6);clear hb6;go_wp2_with fail;go_ret;exact⟨Zzf HN.out,HB6.out⟩
        · have h2I: ¬ (400:Int)<(tx.size:Int):=by omega
          have HN:Hid (fewO L most=if((L.take n).drop (k+1)).all (fun x=>opOk x.o)=true then(n:Int)else -1):=by
           show _=_;rw[hst.out];unfold opOk;simp only;rw[hs,Yal (show wd.size≤100 by omega),Yal (show tx.size≤400 by omega)]
           rfl
          clear hst hs;go_wp2_with fail;refine HS.out.mono ?_;rintro e w6 ⟨rfl,hb6⟩;have y3:w6.cell? ⟨wr.heap.size,3,none⟩=some (.string wd):=((HX5.out.below hb6).cell 3).trans rfl;have y6:w6.cell? ⟨wr.heap.size,6,none⟩=some (.string tx):=((HX5.out.below hb6).cell 6).trans rfl;have HB6:=Zhd (Zaa HB5.out hb6);clear hb6;go_wp2_with fail;go_roundw
          case rel=>exact⟨k+1,by omega,by go_num,HN,HB6⟩
          case measure=>simp[intOf];omega
  · have HN:Hid (fewO L most=(n:Int)):=by show _=_;rw[HQ.out,Ybe (by rw[Yah];omega)];rfl
    have hke:k=n:=by omega
    subst hke;go_wp2_with fail;go_ret;exact⟨Zzf HN.out,HB.out⟩
end Go.Proofs.Zq
